/- Contracts of functions over the abstract machine. No conditions: lemmas alone. -/
import Derived.Test.YtbdejnnbpdgjlaaPeerPiecesLibD
import Derived.Test.YtbdejnnbpdgjlaaPeerPiecesP11
import Derived.Test.YtbdejnnbpdgjlaaPeerPiecesP0
namespace Go.Proofs.Ytbdejnnbpdgjlaa.Ax
open Go Go.RowKit
set_option linter.unusedVariables false
set_option linter.unusedSimpArgs false
set_option maxRecDepth 100000
set_option maxHeartbeats 20000000
def bytesL (b : List Int) : Prop := ∀ x ∈ b, 0 ≤ x ∧ x ≤ 255
theorem bytesL.drop {b : List Int} (h : bytesL b) (n : Nat) : bytesL (b.drop n) := fun x hx => h x (List.mem_of_mem_drop hx)
theorem bytesL.take {b : List Int} (h : bytesL b) (n : Nat) : bytesL (b.take n) := fun x hx => h x (List.mem_of_mem_take hx)
theorem pairAt_rng {b : List Int} (h : bytesL b) (i : Nat) : 0 ≤ pairAt b i ∧ pairAt b i ≤ 65535 := by
 have h0 := getD_byte h i
 have h1 := getD_byte h (i + 1)
 unfold isByte at h0 h1
 unfold pairAt
 omega
theorem capP_u32 : ∀ {f : Nat} {v : List Int} {a : Int} {has : Bool} {r : Int × Bool}, bytesL v → u32 a → capP f v a has = some r → u32 r.1
 | 0, _, _, _, _, _, _, h => by cases h
 | f + 1, v, a, has, r, hb, ha, h => by
  unfold capP at h
  split at h
  ·cases h; exact ha
  ·split at h
   ·cases h
   ·refine capP_u32 (hb.drop _) ?_ h
    split
    ·exact wordAt_u32 hb 2
    ·exact ha
theorem parP_u32 : ∀ {f : Nat} {v : List Int} {a : Int} {has : Bool} {r : Int × Bool}, bytesL v → u32 a → parP f v a has = .inr r → u32 r.1
 | 0, _, _, _, _, _, _, h => by cases h
 | f + 1, v, a, has, r, hb, ha, h => by
  unfold parP at h
  split at h
  ·cases h; exact ha
  ·split at h
   ·cases h
   ·split at h
    ·cases h
    ·split at h
     ·cases h
     ·rename_i a' has' hc
      exact parP_u32 (hb.drop _) (capP_u32 ((hb.drop 2).take _) ha hc) h
theorem parP_code : ∀ {f : Nat} {v : List Int} {a : Int} {has : Bool} {s : Int}, parP f v a has = .inl s → s = 0 ∨ s = 4
 | 0, _, _, _, _, h => by cases h; exact .inl rfl
 | f + 1, v, a, has, s, h => by
  unfold parP at h
  split at h
  ·cases h
  ·split at h
   ·cases h; exact .inl rfl
   ·split at h
    ·cases h; exact .inr rfl
    ·split at h
     ·cases h; exact .inl rfl
     ·exact parP_code h
theorem openP_spec {b : List Int} (hb : bytesL b) : ((openP b).2 = (0, 0) ∧ (openP b).1.kind = 1 ∧ rightM (openP b).1 ∧ goodM (openP b).1 ∧ ownM (openP b).1 = (openP b).1) ∨
  ((openP b).2.1 = 2 ∧ ((openP b).2.2 = 0 ∨ (openP b).2.2 = 1 ∨ (openP b).2.2 = 2 ∨ (openP b).2.2 = 3 ∨ (openP b).2.2 = 4 ∨ (openP b).2.2 = 6 ∨ (openP b).2.2 = 7)) := by
 unfold openP
 split
 ·exact .inr ⟨rfl, by simp⟩
 split
 ·exact .inr ⟨rfl, by simp⟩
 split
 ·rename_i s hs
  refine .inr ⟨rfl, ?_⟩
  rcases parP_code hs with rfl | rfl <;> simp
 ·rename_i a has hs
  split
  ·exact .inr ⟨rfl, by simp⟩
  split
  ·exact .inr ⟨rfl, by simp⟩
  split
  ·exact .inr ⟨rfl, by simp⟩
  split
  ·exact .inr ⟨rfl, by simp⟩
  ·rename_i h1 h2 h3 h4
   have ha := parP_u32 (hb.drop 10) (show u32 0 by unfold u32; omega) hs
   have hp := pairAt_rng hb 3
   refine .inl ⟨rfl, rfl, ?_, ?_, ?_⟩
   ·unfold rightM
    rw [if_pos rfl]
    exact ⟨fun e => h2 (.inl e), h4, by show pairAt b 3 = 0 ∨ (3 ≤ pairAt b 3 ∧ pairAt b 3 ≤ 65535); omega⟩
   ·refine ⟨ha, wordAt_u32 hb 5, by simp [MV.zero], by simp [MV.zero], ?_, by simp [MV.zero]⟩
    exact partP_zero.2.2.2.2.2.2.2.2.2
   ·unfold ownM; rw [if_pos rfl]
theorem rd_code {need : Bool} : ∀ {f : Nat} {xs : List Int} {met : Int → Bool} {a : AV}, (readP need f xs met a).2 = 0 ∨ (readP need f xs met a).2 = 1 ∨ (readP need f xs met a).2 = 2 ∨ (readP need f xs met a).2 = 3 ∨ (readP need f xs met a).2 = 4 ∨ (readP need f xs met a).2 = 5 ∨ (readP need f xs met a).2 = 6 ∨ (readP need f xs met a).2 = 8 ∨ (readP need f xs met a).2 = 9 ∨ (readP need f xs met a).2 = 11
 | 0, _, _, _ => .inl rfl
 | f + 1, xs, met, a => by
  by_cases hx : xs = []
  ·subst hx
   rw [readP_nil]
   split
   ·simp
   ·simp
  ·rw [readP_step _ _ _ _ _ hx]
   split
   ·simp
   ·split
    ·exact rd_code
    ·unfold stepE takeP
     repeat' split
     all_goals simp
theorem updateP_spec {b : List Int} (hb : bytesL b) : ((updateP b).2 = (0, 0) ∧ (updateP b).1.kind = 2 ∧ rightM (updateP b).1 ∧ goodM (updateP b).1) ∨
  ((updateP b).2.1 = 3 ∧ ((updateP b).2.2 = 1 ∨ (updateP b).2.2 = 2 ∨ (updateP b).2.2 = 3 ∨ (updateP b).2.2 = 4 ∨ (updateP b).2.2 = 5 ∨ (updateP b).2.2 = 6 ∨ (updateP b).2.2 = 8 ∨ (updateP b).2.2 = 9 ∨ (updateP b).2.2 = 10 ∨ (updateP b).2.2 = 11)) := by
 unfold updateP
 split
 ·exact .inr ⟨rfl, by simp⟩
 split
 ·exact .inr ⟨rfl, by simp⟩
 split
 ·rename_i h
  refine .inr ⟨rfl, ?_⟩
  have := rd_code (need := decide ((nlR (b.drop (4 + updG b + updA b))).1 ≠ [])) (f := ((b.drop (4 + updG b)).take (updA b)).length + 1) (xs := (b.drop (4 + updG b)).take (updA b)) (met := fun _ => false) (a := AV.zero)
  unfold rdP at h ⊢
  simp only at h ⊢
  omega
 ·rename_i h1 h2 h
  have h' : (rdP (decide ((nlR (b.drop (4 + updG b + updA b))).1 ≠ [])) ((b.drop (4 + updG b)).take (updA b))).2 = 0 := by
   by_cases e : (rdP (decide ((nlR (b.drop (4 + updG b + updA b))).1 ≠ [])) ((b.drop (4 + updG b)).take (updA b))).2 = 0
   ·exact e
   ·exact absurd e h
  refine .inl ⟨rfl, rfl, ?_, ?_⟩
  ·unfold rightM
   rw [if_neg (by simp), if_pos rfl]
   refine ⟨fun p hp => (nlRead_right ((hb.drop 2).take _) p hp).1, fun p hp => (nlRead_right (hb.drop _) p hp).1, ?_⟩
   by_cases hn : (nlR (b.drop (4 + updG b + updA b))).1 = []
   ·exact .inl hn
   ·refine .inr ?_
    rw [decide_eq_true hn] at h' ⊢
    exact (rd_right ((hb.drop _).take _) h').1
  ·have hrd : ∀ need : Bool, goodAV (rdP need ((b.drop (4 + updG b)).take (updA b))).1 := fun need => by
    by_cases e : (rdP need ((b.drop (4 + updG b)).take (updA b))).2 = 0
    ·unfold rdP at *
     obtain ⟨ks, r1, r2⟩ := rd_of (by omega) e
     exact (r1.part ((hb.drop _).take _) partP_zero).2.2.2.2.2.2.2.2.2
    ·rw [rd_wrong e]; exact partP_zero.2.2.2.2.2.2.2.2.2
   exact ⟨by unfold u32; simp [MV.zero], by unfold u32; simp [MV.zero], fun p hp => (nlRead_right ((hb.drop 2).take _) p hp).2, fun p hp => (nlRead_right (hb.drop _) p hp).2, hrd _, by simp [MV.zero]⟩
theorem bodyP_spec {b : List Int} {k : Int} (hk : 1 ≤ k ∧ k ≤ 4) (hb : bytesL b) : ((bodyP k b).2 = (0, 0) ∧ (bodyP k b).1.kind = k ∧ rightM (bodyP k b).1 ∧ goodM (bodyP k b).1) ∨
  ((bodyP k b).2.1 = 2 ∧ ((bodyP k b).2.2 = 0 ∨ (bodyP k b).2.2 = 1 ∨ (bodyP k b).2.2 = 2 ∨ (bodyP k b).2.2 = 3 ∨ (bodyP k b).2.2 = 4 ∨ (bodyP k b).2.2 = 6 ∨ (bodyP k b).2.2 = 7)) ∨
  ((bodyP k b).2.1 = 3 ∧ ((bodyP k b).2.2 = 1 ∨ (bodyP k b).2.2 = 2 ∨ (bodyP k b).2.2 = 3 ∨ (bodyP k b).2.2 = 4 ∨ (bodyP k b).2.2 = 5 ∨ (bodyP k b).2.2 = 6 ∨ (bodyP k b).2.2 = 8 ∨ (bodyP k b).2.2 = 9 ∨ (bodyP k b).2.2 = 10 ∨ (bodyP k b).2.2 = 11)) := by
 unfold bodyP
 have gz : goodAV AV.zero := partP_zero.2.2.2.2.2.2.2.2.2
 split
 ·rename_i e
  rcases openP_spec hb with ⟨h1, h2, h3, h4, _⟩ | h
  ·exact .inl ⟨h1, by rw [h2, e], h3, h4⟩
  ·exact .inr (.inl h)
 ·split
  ·rename_i e
   rcases updateP_spec hb with ⟨h1, h2, h3, h4⟩ | h
   ·exact .inl ⟨h1, by rw [h2, e], h3, h4⟩
   ·exact .inr (.inr h)
  ·split
   ·rename_i e
    have b0 := getD_byte hb 0
    have b1 := getD_byte hb 1
    refine .inl ⟨rfl, e.symm, ?_, ?_⟩
    ·unfold rightM
     rw [if_neg (by simp), if_neg (by simp), if_pos rfl]
     exact ⟨b0.1, b0.2, b1.1, b1.2⟩
    ·exact ⟨by unfold u32; simp [MV.zero], by unfold u32; simp [MV.zero], by simp [MV.zero], by simp [MV.zero], gz, hb.drop 2⟩
   ·refine .inl ⟨rfl, by show (4 : Int) = k; omega, ?_, ?_⟩
    ·unfold rightM
     rw [if_neg (by simp), if_neg (by simp), if_neg (by simp)]; trivial
    ·exact ⟨by unfold u32; simp [MV.zero], by unfold u32; simp [MV.zero], by simp [MV.zero], by simp [MV.zero], gz, by simp [MV.zero]⟩
theorem headF_cases (b : List Int) : headF b = (1, 2) ∨ headF b = (1, 3) ∨ (headF b = (0, 0) ∧ 19 ≤ pairAt b 16 ∧ pairAt b 16 ≤ 4096 ∧ 1 ≤ b.getD 18 0 ∧ b.getD 18 0 ≤ 4 ∧ leastP (b.getD 18 0) ≤ pairAt b 16 ∧ (b.getD 18 0 = 4 → pairAt b 16 = 19)) := by
 unfold headF
 split
 ·exact .inl rfl
 split
 ·exact .inr (.inl rfl)
 split
 ·exact .inl rfl
 ·refine .inr (.inr ⟨rfl, by omega, by omega, by omega, by omega, by omega, by omega⟩)
theorem readM_cases {b : List Int} (hb : bytesL b) :
  (readM b = (MV.zero, 0, (0, 0))) ∨
  (∃ m, readM b = (m, pairAt b 16, (0, 0)) ∧ 19 ≤ pairAt b 16 ∧ pairAt b 16 ≤ b.length ∧ pairAt b 16 ≤ 4096 ∧ 1 ≤ m.kind ∧ m.kind ≤ 4 ∧ rightM m ∧ goodM m) ∨
  (∃ f, readM b = (MV.zero, 0, f) ∧ f ≠ (0, 0) ∧ ((f.1 = 1 ∧ (f.2 = 1 ∨ f.2 = 2 ∨ f.2 = 3)) ∨ (f.1 = 2 ∧ (f.2 = 0 ∨ f.2 = 1 ∨ f.2 = 2 ∨ f.2 = 3 ∨ f.2 = 4 ∨ f.2 = 6 ∨ f.2 = 7)) ∨
   (f.1 = 3 ∧ (f.2 = 1 ∨ f.2 = 2 ∨ f.2 = 3 ∨ f.2 = 4 ∨ f.2 = 5 ∨ f.2 = 6 ∨ f.2 = 8 ∨ f.2 = 9 ∨ f.2 = 10 ∨ f.2 = 11))) ∧ ∀ ys, readM (b ++ ys) = (MV.zero, 0, f)) := by
 by_cases c1 : ∃ x ∈ b.take 16, x ≠ 255
 ·refine .inr (.inr ⟨(1, 1), by unfold readM; rw [if_pos c1], by simp, .inl ⟨rfl, .inl rfl⟩, fun ys => ?_⟩)
  unfold readM
  rw [if_pos]
  obtain ⟨x, hx, hne⟩ := c1
  refine ⟨x, ?_, hne⟩
  rw [List.take_append]
  exact List.mem_append_left _ hx
 by_cases c2 : b.length < 19
 ·exact .inl (by unfold readM; rw [if_neg c1, if_pos c2])
 have g16 : ∀ ys, pairAt (b ++ ys) 16 = pairAt b 16 := fun ys => pairAt_app (by omega)
 have g18 : ∀ ys, (b ++ ys).getD 18 0 = b.getD 18 0 := fun ys => getD_app (by omega)
 have t16 : ∀ ys, (b ++ ys).take 16 = b.take 16 := fun ys => by rw [List.take_append_of_le_length (by omega)]
 have hh : ∀ ys, headF (b ++ ys) = headF b := fun ys => by unfold headF; rw [g16, g18]
 have l19 : ∀ ys, ¬ (b ++ ys).length < 19 := fun ys => by rw [List.length_append]; omega
 by_cases c3 : headF b = (0, 0)
 rotate_left
 ·have hf : readM b = (MV.zero, 0, headF b) ∧ ∀ ys, readM (b ++ ys) = (MV.zero, 0, headF b) := by
   refine ⟨by unfold readM; rw [if_neg c1, if_neg c2, if_pos c3], fun ys => ?_⟩
   unfold readM; rw [t16, if_neg c1, if_neg (l19 ys), hh, if_pos c3]
  refine .inr (.inr ⟨headF b, hf.1, c3, ?_, hf.2⟩)
  rcases headF_cases b with h | h | h
  ·rw [h]; simp
  ·rw [h]; simp
  ·exact absurd h.1 c3
 obtain ⟨q1, q2, q3, q4, q5, q6⟩ : 19 ≤ pairAt b 16 ∧ pairAt b 16 ≤ 4096 ∧ 1 ≤ b.getD 18 0 ∧ b.getD 18 0 ≤ 4 ∧ leastP (b.getD 18 0) ≤ pairAt b 16 ∧ (b.getD 18 0 = 4 → pairAt b 16 = 19) := by
  rcases headF_cases b with h | h | h
  ·rw [h] at c3; cases c3
  ·rw [h] at c3; cases c3
  ·exact h.2
 by_cases c4 : (b.length : Int) < pairAt b 16
 ·exact .inl (by unfold readM; rw [if_neg c1, if_neg c2, if_neg (by simp [c3]), if_pos c4])
 have d19 : ∀ ys, ((b ++ ys).drop 19).take ((pairAt b 16).toNat - 19) = (b.drop 19).take ((pairAt b 16).toNat - 19) := fun ys => by
  rw [List.drop_append_of_le_length (by omega), List.take_append_of_le_length (by rw [List.length_drop]; omega)]
 have hbb : bytesL ((b.drop 19).take ((pairAt b 16).toNat - 19)) := (hb.drop 19).take _
 have hbs := bodyP_spec (k := b.getD 18 0) ⟨q3, q4⟩ hbb
 by_cases c5 : (bodyP (b.getD 18 0) ((b.drop 19).take ((pairAt b 16).toNat - 19))).2 = (0, 0)
 ·refine .inr (.inl ⟨(bodyP (b.getD 18 0) ((b.drop 19).take ((pairAt b 16).toNat - 19))).1, ?_, q1, by omega, q2, ?_⟩)
  ·unfold readM; rw [if_neg c1, if_neg c2, if_neg (by simp [c3]), if_neg c4, if_pos c5]
  ·rcases hbs with ⟨_, h2, h3, h4⟩ | ⟨h, _⟩ | ⟨h, _⟩
   ·exact ⟨by omega, by omega, h3, h4⟩
   ·rw [c5] at h; cases h
   ·rw [c5] at h; cases h
 ·refine .inr (.inr ⟨(bodyP (b.getD 18 0) ((b.drop 19).take ((pairAt b 16).toNat - 19))).2, ?_, c5, ?_, fun ys => ?_⟩)
  ·unfold readM; rw [if_neg c1, if_neg c2, if_neg (by simp [c3]), if_neg c4, if_neg c5]
  ·rcases hbs with ⟨h, _⟩ | h | h
   ·exact absurd h c5
   ·exact .inr (.inl h)
   ·exact .inr (.inr h)
  ·unfold readM
   rw [t16, if_neg c1, if_neg (l19 ys), hh, if_neg (by simp [c3]), g16, g18, d19, if_neg (by rw [List.length_append]; omega), if_neg c5]
section
variable {P : Program} {o : Oper} {ρ : Operand → Value} {M : Mem} {K : Value → Mem → Prop}
theorem fresh_mk {t e : TypeId} {x y : Operand} (ho : o.op = .makeSlice t x y) {s n l bt : Nat} {k k' : IntKind} {z : List Value} (hu : P.underlying t = some (.slice e)) (hs : tsz P e = some s) (h0 : 0 < s) (hz : tzero P e = some z) (hzl : z.length = s) (hb : tby P e = some bt)
  (hx : ρ x = .int k l) (hy : ρ y = .int k' n) (hl : l ≤ n) (hn : n * bt ≤ 140737488355328) (hn2 : n ≤ 140737488355328) : FreshA P o ρ (.row true s (zerosOf z n)) fun b => .slice (some ⟨b, 0, none⟩) l n := by
 intro ι N0 ρ' b w hN hb' hr
 have hrx := hr x (by rw [ho]; simp [Op.operands])
 have hry := hr y (by rw [ho]; simp [Op.operands])
 rw [hx] at hrx
 rw [hy] at hry
 generalize hx' : ρ' x = x' at hrx
 generalize hy' : ρ' y = y' at hry
 cases hrx
 cases hry
 obtain ⟨i, hi, rfl⟩ : ∃ i, P.info? e = some i ∧ i.bytes = bt := by
  unfold tby at hb
  obtain ⟨i, hi, h⟩ := Option.map_eq_some_iff.1 hb
  exact ⟨i, hi, h⟩
 obtain ⟨zv, hz1, hz2⟩ := run_zero hz w
 have hzs : zv.cells.size = s := by rw [← hzl, ← hz1]; simp
 have hsz : i.size = s := by unfold tsz at hs; rw [hi] at hs; simpa using hs
 have wl : IntKind.i64.wrap (l : Int) = l := by rw [IntKind.wrap_i64]; omega
 have wn : IntKind.i64.wrap (n : Int) = n := by rw [IntKind.wrap_i64]; omega
 have hbn : (i.bytes : Int) * n ≤ 140737488355328 := by
  have h : ((n * i.bytes : Nat) : Int) ≤ 140737488355328 := by omega
  rw [Int.natCast_mul] at h
  rw [Int.mul_comm]; exact h
 have n1 : ¬ (n : Int) < 0 := by omega
 have n2 : ¬ (281474976710656 : Int) < (i.bytes : Int) * n := by omega
 have n3 : ¬ (l : Int) < 0 := by omega
 have n4 : ¬ (n : Int) < l := by omega
 obtain ⟨cs', hrun, hcs⟩ : ∃ cs' : Array Value, (execOp ρ' o).run P w = .ok (.value (.slice (some ⟨w.heap.size, 0, none⟩) l n)) (w.alloc (.cells cs' e)) ∧ cs'.toList = zerosOf z n := by
  by_cases h0n : n * s = 0
  ·have hn0 : n = 0 := by
    rcases Nat.mul_eq_zero.1 h0n with h | h
    ·exact h
    ·omega
   refine ⟨#[], ?_, by rw [hn0]; rfl⟩
   obtain rfl : l = 0 := by omega
   subst hn0
   have w0 : IntKind.i64.wrap 0 = 0 := by decide
   simp [execOp, ho, hx', hy', Instr.makeSlice, run_underlying hu, asInt, asIntOf, run_info hi, run_size hs, w0, newRow, run_newObj]
   rw [show Array.map (fun _ => (default : Value)) (Array.range 0) = #[] from by apply Array.ext'; simp]
  ·refine ⟨(Array.range (n * s)).map fun i => zv.cells[i % zv.cells.size]!, ?_, ?_⟩
   ·simp [execOp, ho, hx', hy', Instr.makeSlice, run_underlying hu, asInt, asIntOf, run_info hi, run_size hs, wl, wn, n1, n2, n3, n4, h0n, hz2, newRow, run_newObj]
   ·have h1 : n * s % zv.cells.size = 0 := by rw [hzs]; simp
    rw [zeros_eq h1 (by omega), hzs, hz1, Nat.mul_div_cancel _ h0]
 have hflat := zerosOf_flat (zero_flat hz) n
 have hlen : cs'.size = n * s := by
  have : cs'.toList.length = n * s := by rw [hcs, zerosOf_length, hzl]
  simpa using this
 let lc : Loc := ⟨w.heap.size, 0, cs'.size, s⟩
 have hub : (ι.upd b lc) b = some lc := by simp [Inj.upd]
 refine ⟨.cells cs' e, .slice (some ⟨w.heap.size, 0, none⟩) l n, lc, hrun, rfl, ?_, ?_⟩
 ·refine .slice b 0 l n n lc _ hub hl (.inl rfl) (.inr ⟨rfl, ?_⟩)
  simp [lc, hlen]
 ·refine ⟨hb', rfl, cs', e, alloc_get _ _, by simp [lc, hlen, zerosOf_length, hzl], by simp [lc], ?_⟩
  intro j v hj
  obtain ⟨v', h3, h4⟩ := (LRel.of_flat (ι := ι) hflat).get hj
  refine ⟨v', ?_, h4.mono (Inj.upd_le (l := lc) hN)⟩
  rw [← hcs] at h3
  simpa [lc] using h3
theorem AOp.copy {t t' e e' : TypeId} {x y : Operand} (ho : o.op = .call { callee := .builtin .copy, args := #[x, y], argTypes := #[t, t'] }) (ht : P.underlying t = some (.slice e)) (ht' : P.underlying t' = some (.slice e')) (hs : tsz P e = some 1)
  {b off n c : Nat} (hx : ρ x = .slice (some ⟨b, off, none⟩) n c) {cc ds : List Value} (hB : M[b]? = some (.row true 1 cc)) (hy : Sl M (ρ y) 1 ds) (hn : ds.length ≤ n) (h0 : 0 < ds.length) (hle : off + ds.length ≤ cc.length)
  (hk : K (.int .i64 ds.length) (M.set b (.row true 1 (spl cc off ds)))) : AOp P o ρ M K := by
 intro ι N0 a w KC QC hor hm hc
 have hrx := hor x (by rw [ho]; simp [Op.operands, Call.operands])
 have hry := hor y (by rw [ho]; simp [Op.operands, Call.operands])
 obtain ⟨ds', hds, hsrc⟩ := hy.src hm hry ht'
 have hdl := hy.len
 rw [hx] at hrx
 generalize hz : a.eval x = z at hrx
 cases hrx with
 | slice _ _ _ _ cap' l a' hbl hle' hcap ha =>
  obtain ⟨rfl, hlim⟩ := ha.resolve_left (by omega)
  have hne : ds ≠ [] := List.length_pos_iff.1 h0
  obtain ⟨cc', e2, hg, hle2, hB'⟩ := (hm.blk b _ l hB hbl).stored rfl hne hle hds
  have hst := run_storeCells_at P l.g (l.base + off) e2 ds' 0 cc' w hg (by simpa using hle2) hsrc.one
  simp only [Nat.add_zero] at hst
  have hl2 : ds'.length = ds.length := hds.length.symm
  have hsl : sln (ρ y) = ds.length := by omega
  have hln := hsrc.len
  have hcl := hsrc.cells
  rw [hsl] at hln hcl
  have hmin : Nat.min ds.length n = ds.length := Nat.min_eq_left hn
  unfold Oper.wp
  have hrun : (execOp a.eval o).run P w = .ok (.value (.int .i64 ds.length)) (w.setRow l.g (cc'.toList.take (l.base + off) ++ ds' ++ cc'.toList.drop (l.base + off + ds'.length)).toArray) := by
   simp [execOp, ho, hz, resolve, invoke, builtin, Builtin.copy_, run_underlying ht, run_size hs, hln, hmin, hcl, hst, goInt]
  rw [hrun]
  have hw : ∀ g, g ≠ l.g → (w.setRow l.g (cc'.toList.take (l.base + off) ++ ds' ++ cc'.toList.drop (l.base + off + ds'.length)).toArray).heap[g]? = w.heap[g]? := fun g hg => setRow_other w l.g g _ hg
  exact hc _ _ _ ι _ (VRel.int _ _) (hm.turn hB rfl hbl hw (by simp) hB') (Ext.turn hm hB rfl hbl hw (by simp) rfl rfl rfl) hk
theorem digits_ints : ∀ (n t : Nat) (acc : Array Value) (xs : List Int), acc.toList = ints .u8 xs → ∃ ys : List Int, (Extern.BytealgMakeNoZero.digits n t acc).toList = ints .u8 (xs ++ ys) ∧ ys.length = n
 | 0, _, _, xs, h => ⟨[], by rw [List.append_nil]; exact h, rfl⟩
 | n + 1, t, acc, xs, h => by
  obtain ⟨ys, h1, h2⟩ := digits_ints n (t / 256) (acc.push (.int .u8 (Int.ofNat (t % 256)))) (xs ++ [Int.ofNat (t % 256)]) (by simp [h, ints])
  exact ⟨Int.ofNat (t % 256) :: ys, by rw [Extern.BytealgMakeNoZero.digits, h1]; simp, by simp [h2]⟩
theorem AOp.noZero {g x : Operand} {tys : Array TypeId} {t e : TypeId} (ho : o.op = .call { callee := .value g, args := #[x], argTypes := tys }) {f : FuncId} (hg : ρ g = .func (.func f) #[] #[]) {fn : Func} (hf : P.funcs[f]? = some fn) (hb : fn.body = none) (hnm : (fn.name == "runtime.NumGoroutine") = false)
  (h1 : Extern.findNext fn = none) (h2 : Extern.find fn = some (Extern.BytealgMakeNoZero.makeNoZero #[3] #[t])) (ht : P.underlying t = some (.slice e)) (hs : tsz P e = some 1) {n : Nat} (hx : ρ x = .int .i64 n) (h0 : 0 < n) (hn : n ≤ 1000000)
  (hk : ∀ xs : List Int, xs.length = n → K (.slice (some ⟨M.length, 0, none⟩) n (capLow + n)) (M ++ [.row true 1 (ints .u8 xs)])) : AOp P o ρ M K := by
 intro ι N0 a w KC QC hor hm hc
 have hrg := hor g (by rw [ho]; simp [Op.operands, Call.operands])
 have hrx := hor x (by rw [ho]; simp [Op.operands, Call.operands])
 rw [hg] at hrg
 rw [hx] at hrx
 generalize hz : a.eval g = z at hrg
 generalize hx' : a.eval x = x' at hrx
 cases hrx
 cases hrg with
 | func _ _ _ fs' _ cs' k1 k2 =>
  cases k1
  cases k2
  have hdef : Extern.BytealgMakeNoZero.makeNoZero #[3] #[t] #[.int .i64 n] =
    (do
     let .slice elem ← underlying t | stuck "bytealg.MakeNoZero: slice type expected"
     if (n : Int) < 0 || (n : Int) > 2 ^ 48 then runtimePanic (.error "makeslice: len out of range")
     let cap ← choose (.appendCap (n : Int).toNat 0 elem)
     askRoom cap
     let bytes ← choose (.extern "internal/bytealg.MakeNoZero.bytes" 0)
     let a ← newRow elem (Extern.BytealgMakeNoZero.digits cap bytes #[])
     Pure.pure (Value.slice (some a) (n : Int).toNat cap)) := rfl
  obtain ⟨gc, hgc⟩ : ∃ gc, gc = grownCap w n 0 e := ⟨_, rfl⟩
  have hge : n ≤ gc := by rw [hgc]; simpa using grownCap_ge w n 0 e
  obtain ⟨by', hby⟩ : ∃ by', by' = (Question.extern "internal/bytealg.MakeNoZero.bytes" 0).cut (w.tape (w.drawn + 1) (.extern "internal/bytealg.MakeNoZero.bytes" 0)) := ⟨_, rfl⟩
  obtain ⟨ys, hy1, hy2⟩ := digits_ints gc by' #[] [] rfl
  rw [List.nil_append] at hy1
  have hsz : (Extern.BytealgMakeNoZero.digits gc by' #[]).size = gc := by rw [← Array.length_toList, hy1, ints_length, hy2]
  have hrun1 : (Extern.BytealgMakeNoZero.makeNoZero #[3] #[t] #[.int .i64 n]).run P w = .ok (.slice (some ⟨w.heap.size, 0, none⟩) n gc) (w.drew.drew.alloc (.cells (Extern.BytealgMakeNoZero.digits gc by' #[]) e)) := by
   have q1 : ¬ (n : Int) < 0 := by omega
   have q2 : ¬ (281474976710656 : Int) < (n : Int) := by omega
   rw [hdef, hgc, hby]
   simp [run_underlying ht, q1, q2, Question.forced, newRow, grownCap]
  have hrun : (execOp a.eval o).run P w = .ok (.value (.slice (some ⟨w.heap.size, 0, none⟩) n gc)) (w.drew.drew.alloc (.cells (Extern.BytealgMakeNoZero.digits gc by' #[]) e)) := by
   simp [execOp, ho, resolve, hz, hx', Deferred.ofValue, invoke, callFunc, run_program, hf, hb, show ¬ fn.name = "runtime.NumGoroutine" from by simpa using hnm, h1, h2, hrun1]
  unfold Oper.wp
  rw [hrun]
  let l : Loc := ⟨w.heap.size, 0, gc, 1⟩
  have hnn : ι M.length = none := hm.dom _ (Nat.le_refl _)
  have hle := Inj.upd_le (l := l) hnn
  have hyt : (ys.take n).length = n := by rw [List.length_take]; omega
  have hX' : MRel ι N0 M w.drew.drew := ⟨fun b B l hb hl => (hm.blk b B l hb hl).keep (fun _ _ h => h) fun _ => rfl, hm.dom, hm.inj, hm.base⟩
  have hM : MRel (ι.upd M.length l) N0 (M ++ [.row true 1 (ints .u8 (ys.take n))]) (w.drew.drew.alloc (.cells (Extern.BytealgMakeNoZero.digits gc by' #[]) e)) := by
   refine (hX'.push (.row true 1 (ints .u8 (ys.take n)))).lay (b := M.length) (B := .row true 1 (ints .u8 (ys.take n))) (by simp) hnn rfl ?_
   refine ⟨hX'.base, rfl, _, e, alloc_get w.drew.drew _, ?_, Nat.le_of_eq hsz.symm, ?_⟩
   ·show 0 + (ints .u8 (ys.take n)).length ≤ _
    rw [ints_length, hyt]; simp only [l]; omega
   ·intro j u hj
    refine ⟨u, ?_, ?_⟩
    ·have : (ints .u8 ys)[j]? = some u := by
      rw [← ints_take, List.getElem?_take] at hj
      split at hj
      ·exact hj
      ·cases hj
     rw [← hy1] at this
     simpa [l] using this
    ·have : u ∈ ints .u8 (ys.take n) := List.mem_of_getElem? hj
     obtain ⟨i, _, rfl⟩ := List.mem_map.1 this
     exact .int _ _
  refine hc (.slice (some ⟨M.length, 0, none⟩) n (capLow + n)) _ (M ++ [.row true 1 (ints .u8 (ys.take n))]) (ι.upd M.length l) _ ?_ hM ⟨Inj.upd_le hnn, fun x hx hn' => ⟨by unfold Inj.upd; rw [if_neg (by omega)]; exact hn', List.getElem?_append_left hx⟩, by simp, (((Low.refl _ _).drew).drew).alloc hm.base _⟩ (hk _ hyt)
  refine VRel.slice M.length 0 n _ gc l _ (by simp [Inj.upd]) hge (.inr ⟨by omega, by omega⟩) (.inr ⟨rfl, ?_⟩)
  simp [l]
end
def mkK (P : Program) (ty : TypeId) (x y : Value) (C : Nat → Nat → Nat → List Value → Prop) : Prop := ∃ e s z bt k k' l n, P.underlying ty = some (.slice e) ∧ tsz P e = some s ∧ 0 < s ∧ tzero P e = some z ∧ z.length = s ∧ tby P e = some bt ∧
 x = .int k ((l : Nat) : Int) ∧ y = .int k' ((n : Nat) : Int) ∧ l ≤ n ∧ n * bt ≤ 140737488355328 ∧ n ≤ 140737488355328 ∧ C l n s (zerosOf z n)
theorem zerosOf_one (v : Value) (n : Nat) : zerosOf [v] n = List.replicate n v := by
 unfold zerosOf
 induction n with
 | zero => rfl
 | succ n ih => simp [List.replicate_succ, ih]
theorem mkK.ints {P : Program} {ty e bt : Nat} {k k1 k2 : IntKind} {C : Nat → Nat → Nat → List Value → Prop} {l n : Nat} (hu : P.underlying ty = some (.slice e)) (hs : tsz P e = some 1) (hz : tzero P e = some [.int k 0]) (hb : tby P e = some bt)
  (hl : l ≤ n) (hn : n * bt ≤ 140737488355328) (hn2 : n ≤ 140737488355328) (h : C l n 1 (Ax.ints k (List.replicate n 0))) : mkK P ty (.int k1 l) (.int k2 n) C := by
 refine ⟨e, 1, [.int k 0], bt, k1, k2, l, n, hu, hs, by omega, hz, rfl, hb, rfl, rfl, hl, hn, hn2, ?_⟩
 rw [zerosOf_one]
 have : Ax.ints k (List.replicate n 0) = List.replicate n (.int k 0) := by simp [Ax.ints]
 rw [this] at h
 exact h
def cpK (P : Program) (ty ty' : TypeId) (x y : Value) (M : Mem) (C : Value → Mem → Prop) : Prop := ∃ e e' b off n c cc ds, P.underlying ty = some (.slice e) ∧ P.underlying ty' = some (.slice e') ∧ tsz P e = some 1 ∧ x = .slice (some ⟨b, off, none⟩) n c ∧ M[b]? = some (.row true 1 cc) ∧
 Sl M y 1 ds ∧ ds.length ≤ n ∧ 0 < ds.length ∧ off + ds.length ≤ cc.length ∧ C (.int .i64 ds.length) (M.set b (.row true 1 (spl cc off ds)))
section
variable {P : Program} {ops : Array Oper} {todo done : List Nat} {Ls : List (Nat × LP)} {rest : List Oper} {K : List Value → Mem → Prop} {t : List Value} {M : Mem}
variable {i : Nat} {dst : Option Tmp} {type : TypeId} {pos : String} {after : Array Edge}
theorem AL.mk {ty : TypeId} {x y : Operand} (hok : okOpds ⟨dst, .makeSlice ty x y, type, pos, after, none⟩ = true)
  (h : mkK P ty (ev t x) (ev t y) fun l n s cs => AL P ops rest K (putT t dst (.slice (some ⟨M.length, 0, none⟩) l n)) (M ++ [.row true s cs])) : AL P ops (⟨dst, .makeSlice ty x y, type, pos, after, none⟩ :: rest) K t M := by
 obtain ⟨e, s, z, bt, k, k', l, n, hu, hs, h0, hz, hzl, hb, hx, hy, hl, hn, hn2, hc⟩ := h
 exact AL.op hok rfl (AOp.fresh (fresh_mk rfl hu hs h0 hz hzl hb hx hy hl hn hn2) hc)
theorem AH.mk {ty : TypeId} {x y : Operand} (hok : okOpds ⟨dst, .makeSlice ty x y, type, pos, after, none⟩ = true)
  (h : mkK P ty (ev t x) (ev t y) fun l n s cs => ADL P ops todo (i :: done) Ls K (putT t dst (.slice (some ⟨M.length, 0, none⟩) l n)) (M ++ [.row true s cs])) : AH P ops dst (.makeSlice ty x y) type pos after none i todo done Ls K t M := fun ho => by
 obtain ⟨e, s, z, bt, k, k', l, n, hu, hs, h0, hz, hzl, hb, hx, hy, hl, hn, hn2, hc⟩ := h
 exact ADL.fr ho rfl hok rfl (fresh_mk rfl hu hs h0 hz hzl hb hx hy hl hn hn2) hc
theorem AL.cp {ty ty' : TypeId} {x y : Operand} (hok : okOpd x = true) (hok' : okOpd y = true)
  (h : cpK P ty ty' (ev t x) (ev t y) M fun v M' => AL P ops rest K (putT t dst v) M') : AL P ops (⟨dst, .call { callee := .builtin .copy, args := ⟨[x, y]⟩, argTypes := ⟨[ty, ty']⟩ }, type, pos, after, none⟩ :: rest) K t M := by
 obtain ⟨e, e', b, off, n, c, cc, ds, hu, hu', hs, hx, hB, hy, hn, h0, hle, hc⟩ := h
 exact AL.op (by simp [okOpds, calmOp, Op.operands, Call.operands, hok, hok']) rfl (AOp.copy rfl hu hu' hs hx hB hy hn h0 hle hc)
theorem AL.mz {g x : Operand} {tys : Array TypeId} {ty e : TypeId} (hok : okOpd g = true) (hok' : okOpd x = true) {f : FuncId} (hg : ev t g = .func (.func f) #[] #[]) {fn : Func} (hf : P.funcs[f]? = some fn) (hb : fn.body = none) (hnm : (fn.name == "runtime.NumGoroutine") = false)
  (h1 : Extern.findNext fn = none) (h2 : Extern.find fn = some (Extern.BytealgMakeNoZero.makeNoZero #[3] #[ty])) (ht : P.underlying ty = some (.slice e)) (hs : tsz P e = some 1) {n : Nat} (hx : ev t x = .int .i64 n) (h0 : 0 < n) (hn : n ≤ 1000000)
  (hk : ∀ xs : List Int, xs.length = n → AL P ops rest K (putT t dst (.slice (some ⟨M.length, 0, none⟩) n (capLow + n))) (M ++ [.row true 1 (ints .u8 xs)])) : AL P ops (⟨dst, .call { callee := .value g, args := ⟨[x]⟩, argTypes := tys }, type, pos, after, none⟩ :: rest) K t M :=
 AL.op (by simp [okOpds, calmOp, Op.operands, Call.operands, hok, hok']) rfl (AOp.noZero rfl hg hf hb hnm h1 h2 ht hs hx h0 hn hk)
theorem AH.cpN {ty ty' : TypeId} {x y : Operand} (hok : okOpd x = true) (hok' : okOpd y = true) (hL : (Ls.map Prod.fst).all (fun x => bef ops x i) = true)
  (h : cpK P ty ty' (ev t x) (ev t y) M fun v M' => ADL P ops todo (i :: done) [] K (putT t dst v) M') : AH P ops dst (.call { callee := .builtin .copy, args := ⟨[x, y]⟩, argTypes := ⟨[ty, ty']⟩ }) type pos after none i todo done Ls K t M := fun ho => by
 obtain ⟨e, e', b, off, n, c, cc, ds, hu, hu', hs, hx, hB, hy, hn, h0, hle, hc⟩ := h
 refine ADL.ef ho rfl (by simp [okOpds, calmOp, Op.operands, Call.operands, hok, hok']) rfl ((AOp.copy (K := fun v M' => ADL P ops todo (i :: done) [] K (putT t dst v) M') rfl hu hu' hs hx hB hy hn h0 hle hc).mono fun v M' h => ?_)
 rw [filt_none hL]
 exact ⟨by simp, h⟩
end
end Go.Proofs.Ytbdejnnbpdgjlaa.Ax
namespace Go.Proofs.Ytbdejnnbpdgjlaa.Ax
open Go Go.RowKit
open Nat renaming reduceAdd → ν1, reduceMul → ν2, reduceLeDiff → ν3, reduceLT → ν4, reduceSub → ν5
open Int renaming reduceNe → ζ1, reduceEq → ζ2, reduceLE → ζ3, reduceLT → ζ4, reduceToNat → ζ5
set_option linter.unusedVariables false
set_option linter.unusedSimpArgs false
set_option maxRecDepth 100000
set_option maxHeartbeats 20000000
attribute [local irreducible] thenA blockA scopeA retA AL AW AD ADL AH clrK CallA apure aload bload appK ptrK fnK ares szOk planOk okOps
theorem nz_next : Extern.findNext Try.f101 = none := by kernel_rfl
theorem nz_find : Extern.find Try.f101 = some (Extern.BytealgMakeNoZero.makeNoZero #[3] #[39]) := by kernel_rfl
theorem nz_fn : Try.prog.funcs[101]? = some Try.f101 := by kernel_rfl
theorem aslice_full {b n : Nat} (h : n < capLow) : aslice (.slice (some ⟨b, 0, none⟩) n (capLow + n)) 1 none (some (.int .i64 (n : Int))) (some (.int .i64 (n : Int))) = some (.slice (some ⟨b, 0, none⟩) n n) := by
 have := capLb_add n
 simp [aslice, natOf, isSl, sln, scp, subsl, this, h]
theorem capLb_small {n : Nat} (h : n < 4611686018427387904) : capLb n = n := by exact if_pos h
theorem capSub_small {n l : Nat} (h : n < 4611686018427387904) : capSub n l = n - l := by exact if_pos h
theorem cap16 : 16 ≤ capLb 16 := Nat.le_of_eq (capLb_small (n := 16) (by omega)).symm
end Go.Proofs.Ytbdejnnbpdgjlaa.Ax
