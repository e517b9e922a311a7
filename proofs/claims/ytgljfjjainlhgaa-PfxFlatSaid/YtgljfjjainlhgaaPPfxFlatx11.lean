/- Written for this claim by a program of this session, after the kit's print. Not trusted: Lean checks it. -/
import Derived.Test.YtgljfjjainlhgaaPPfxFlatx0
import Derived.Test.YtgljfjjainlhgaaPPfxFlatx9
import Derived.Test.YtgljfjjainlhgaaPPfxFlatx10
namespace Go.Proofs.Ytgljfjjainlhgaa.PPfxFlat
open Go.RowKit Go.Proofs.YtgljfjjainlhgaaW.PrintWords Go.Proofs.YtgljfjjainlhgaaW.PrintLast Go.Proofs.YtgljfjjainlhgaaW.PrintMore
attribute [local go_sem] max2_int min2_int max_two min_two max_three min_three max_four min_four   -- for this text's walks alone
set_option linter.unusedVariables false
set_option linter.unusedSimpArgs false

/-! ### dragomanref04_Minus: function 15 -/
mutual
def dragomanref04_Minus.j0 : Nat → List (S26) → Int → Int → Int → Int → Int → Int → Int → Int → Option ((List (S26)))
  | 0, _, _, _, _, _, _, _, _, _ => none
  | k + 1, x7, x182000, x182001, x182002, x182003, x190000, x190001, x190002, x190003 => dragomanref04_Minus.l0 k x7 (wrap64 (x182001 + 1)) x182000 x182001 x182002 x182003 x190000 x190001 x190002 x190003
def dragomanref04_Minus.l0 : Nat → List (S26) → Int → Int → Int → Int → Int → Int → Int → Int → Int → Option ((List (S26)))
  | 0, _, _, _, _, _, _, _, _, _, _ => none
  | k + 1, x7, x8, x182000, x182001, x182002, x182003, x190000, x190001, x190002, x190003 => if x8 ≤ x190001 then (dragomanref04_Minus.l1 k x7 x8 1 x8 x182000 x182001 x182002 x182003 x190000 x190001 x190002 x190003) else (if x190003 < x182003 then (if x7.length < 4398046511104 then (some (x7 ++ [(⟨(⟨x182000, x182001⟩ : S24), wrap64 (x190003 + 1), x182003⟩ : S26)])) else (none)) else (some x7))
def dragomanref04_Minus.l1 : Nat → List (S26) → Int → Int → Int → Int → Int → Int → Int → Int → Int → Int → Int → Option ((List (S26)))
  | 0, _, _, _, _, _, _, _, _, _, _, _, _ => none
  | k + 1, x7, x8, x9, x10, x182000, x182001, x182002, x182003, x190000, x190001, x190002, x190003 => if x10 < 32 then (dragomanref04_Minus.l1 k x7 x8 ((2 * x9) % 4294967296) (wrap64 (x10 + 1)) x182000 x182001 x182002 x182003 x190000 x190001 x190002 x190003) else ((dragomanref04_cut.f k x190000 x8).bind fun t199 => (if x9 = 0 then (none) else (if (((Int.tdiv t199 x9) % 4294967296) % 2) = 1 then (if x7.length < 4398046511104 then (dragomanref04_Minus.l0 k (x7 ++ [(⟨(⟨(t199 - x9) % 4294967296, x8⟩ : S24), x190002, x190003⟩ : S26)]) (wrap64 (x8 + 1)) x182000 x182001 x182002 x182003 x190000 x190001 x190002 x190003) else (none)) else (if x7.length < 4398046511104 then (dragomanref04_Minus.l0 k (x7 ++ [(⟨(⟨(t199 + x9) % 4294967296, x8⟩ : S24), x190002, x190003⟩ : S26)]) (wrap64 (x8 + 1)) x182000 x182001 x182002 x182003 x190000 x190001 x190002 x190003) else (none)))))
end
def dragomanref04_Minus.f (k : Nat) (a0_0 : Int) (a0_1 : Int) (a0_2 : Int) (a0_3 : Int) (a1_0 : Int) (a1_1 : Int) (a1_2 : Int) (a1_3 : Int) : Option ((List (S26))) := (dragomanref04_Right.f k a0_0 a0_1 a0_2 a0_3).bind fun t183 => (if t183 = true then ((dragomanref04_Meet.f k a0_0 a0_1 a0_2 a0_3 a1_0 a1_1 a1_2 a1_3).bind fun bt184 => (if bt184.2.2.2.2 = true then (if a0_2 < bt184.2.2.1 then (if ([] : List (S26)).length < 4398046511104 then (dragomanref04_Minus.j0 k (([] : List (S26)) ++ [(⟨(⟨a0_0, a0_1⟩ : S24), a0_2, wrap64 (bt184.2.2.1 - 1)⟩ : S26)]) a0_0 a0_1 a0_2 a0_3 bt184.1 bt184.2.1 bt184.2.2.1 bt184.2.2.2.1) else (none)) else (dragomanref04_Minus.j0 k ([] : List (S26)) a0_0 a0_1 a0_2 a0_3 bt184.1 bt184.2.1 bt184.2.2.1 bt184.2.2.2.1)) else (some (([(⟨(⟨a0_0, a0_1⟩ : S24), a0_2, a0_3⟩ : S26)] : List (S26)))))) else (some ([] : List (S26))))
theorem dragomanref04_Minus.mono_l : ∀ k, (∀ y0 y1 y2 y3 y4 y5 y6 y7 y8, LeO (dragomanref04_Minus.j0 k y0 y1 y2 y3 y4 y5 y6 y7 y8) (dragomanref04_Minus.j0 (k + 1) y0 y1 y2 y3 y4 y5 y6 y7 y8)) ∧ (∀ y0 y1 y2 y3 y4 y5 y6 y7 y8 y9, LeO (dragomanref04_Minus.l0 k y0 y1 y2 y3 y4 y5 y6 y7 y8 y9) (dragomanref04_Minus.l0 (k + 1) y0 y1 y2 y3 y4 y5 y6 y7 y8 y9)) ∧ (∀ y0 y1 y2 y3 y4 y5 y6 y7 y8 y9 y10 y11, LeO (dragomanref04_Minus.l1 k y0 y1 y2 y3 y4 y5 y6 y7 y8 y9 y10 y11) (dragomanref04_Minus.l1 (k + 1) y0 y1 y2 y3 y4 y5 y6 y7 y8 y9 y10 y11))
  | 0 => ⟨fun _ _ _ _ _ _ _ _ _ r h => by simp [dragomanref04_Minus.j0] at h, fun _ _ _ _ _ _ _ _ _ _ r h => by simp [dragomanref04_Minus.l0] at h, fun _ _ _ _ _ _ _ _ _ _ _ _ r h => by simp [dragomanref04_Minus.l1] at h⟩
  | k + 1 => by
    obtain ⟨ih0, ih1, ih2⟩ := dragomanref04_Minus.mono_l k
    refine ⟨?_, ?_, ?_⟩
    · intro y0 y1 y2 y3 y4 y5 y6 y7 y8
      unfold dragomanref04_Minus.j0
      repeat' first
      | (with_reducible exact ih0 _ _ _ _ _ _ _ _ _)
      | (with_reducible exact ih1 _ _ _ _ _ _ _ _ _ _)
      | (with_reducible exact ih2 _ _ _ _ _ _ _ _ _ _ _ _)
      | (with_reducible exact dragomanref04_Meet.mono _ _ _ _ _ _ _ _ _)
      | (with_reducible exact dragomanref04_Right.mono _ _ _ _ _)
      | (with_reducible exact dragomanref04_cut.mono _ _ _)
      | (with_reducible exact LeO.refl _)
      | (with_reducible exact LeO.none _)
      | (with_reducible refine LeO.ite ?_ ?_)
      | (with_reducible refine LeO.bind ?_ (fun _ => ?_))
      | exact ih0 _ _ _ _ _ _ _ _ _
      | exact ih1 _ _ _ _ _ _ _ _ _ _
      | exact ih2 _ _ _ _ _ _ _ _ _ _ _ _
      | exact dragomanref04_Meet.mono _ _ _ _ _ _ _ _ _
      | exact dragomanref04_Right.mono _ _ _ _ _
      | exact dragomanref04_cut.mono _ _ _
      | exact LeO.none _
      | refine LeO.ite ?_ ?_
      | refine LeO.bind ?_ (fun _ => ?_)
    · intro y0 y1 y2 y3 y4 y5 y6 y7 y8 y9
      unfold dragomanref04_Minus.l0
      repeat' first
      | (with_reducible exact ih0 _ _ _ _ _ _ _ _ _)
      | (with_reducible exact ih1 _ _ _ _ _ _ _ _ _ _)
      | (with_reducible exact ih2 _ _ _ _ _ _ _ _ _ _ _ _)
      | (with_reducible exact dragomanref04_Meet.mono _ _ _ _ _ _ _ _ _)
      | (with_reducible exact dragomanref04_Right.mono _ _ _ _ _)
      | (with_reducible exact dragomanref04_cut.mono _ _ _)
      | (with_reducible exact LeO.refl _)
      | (with_reducible exact LeO.none _)
      | (with_reducible refine LeO.ite ?_ ?_)
      | (with_reducible refine LeO.bind ?_ (fun _ => ?_))
      | exact ih0 _ _ _ _ _ _ _ _ _
      | exact ih1 _ _ _ _ _ _ _ _ _ _
      | exact ih2 _ _ _ _ _ _ _ _ _ _ _ _
      | exact dragomanref04_Meet.mono _ _ _ _ _ _ _ _ _
      | exact dragomanref04_Right.mono _ _ _ _ _
      | exact dragomanref04_cut.mono _ _ _
      | exact LeO.none _
      | refine LeO.ite ?_ ?_
      | refine LeO.bind ?_ (fun _ => ?_)
    · intro y0 y1 y2 y3 y4 y5 y6 y7 y8 y9 y10 y11
      unfold dragomanref04_Minus.l1
      repeat' first
      | (with_reducible exact ih0 _ _ _ _ _ _ _ _ _)
      | (with_reducible exact ih1 _ _ _ _ _ _ _ _ _ _)
      | (with_reducible exact ih2 _ _ _ _ _ _ _ _ _ _ _ _)
      | (with_reducible exact dragomanref04_Meet.mono _ _ _ _ _ _ _ _ _)
      | (with_reducible exact dragomanref04_Right.mono _ _ _ _ _)
      | (with_reducible exact dragomanref04_cut.mono _ _ _)
      | (with_reducible exact LeO.refl _)
      | (with_reducible exact LeO.none _)
      | (with_reducible refine LeO.ite ?_ ?_)
      | (with_reducible refine LeO.bind ?_ (fun _ => ?_))
      | exact ih0 _ _ _ _ _ _ _ _ _
      | exact ih1 _ _ _ _ _ _ _ _ _ _
      | exact ih2 _ _ _ _ _ _ _ _ _ _ _ _
      | exact dragomanref04_Meet.mono _ _ _ _ _ _ _ _ _
      | exact dragomanref04_Right.mono _ _ _ _ _
      | exact dragomanref04_cut.mono _ _ _
      | exact LeO.none _
      | refine LeO.ite ?_ ?_
      | refine LeO.bind ?_ (fun _ => ?_)
theorem dragomanref04_Minus.mono : ∀ a0 a1 a2 a3 a4 a5 a6 a7 k, LeO (dragomanref04_Minus.f k a0 a1 a2 a3 a4 a5 a6 a7) (dragomanref04_Minus.f (k + 1) a0 a1 a2 a3 a4 a5 a6 a7) := by
  intro a0 a1 a2 a3 a4 a5 a6 a7 k
  obtain ⟨ih0, ih1, ih2⟩ := dragomanref04_Minus.mono_l k
  unfold dragomanref04_Minus.f
  repeat' first
      | (with_reducible exact ih0 _ _ _ _ _ _ _ _ _)
      | (with_reducible exact ih1 _ _ _ _ _ _ _ _ _ _)
      | (with_reducible exact ih2 _ _ _ _ _ _ _ _ _ _ _ _)
      | (with_reducible exact dragomanref04_Meet.mono _ _ _ _ _ _ _ _ _)
      | (with_reducible exact dragomanref04_Right.mono _ _ _ _ _)
      | (with_reducible exact dragomanref04_cut.mono _ _ _)
      | (with_reducible exact LeO.refl _)
      | (with_reducible exact LeO.none _)
      | (with_reducible refine LeO.ite ?_ ?_)
      | (with_reducible refine LeO.bind ?_ (fun _ => ?_))
      | exact ih0 _ _ _ _ _ _ _ _ _
      | exact ih1 _ _ _ _ _ _ _ _ _ _
      | exact ih2 _ _ _ _ _ _ _ _ _ _ _ _
      | exact dragomanref04_Meet.mono _ _ _ _ _ _ _ _ _
      | exact dragomanref04_Right.mono _ _ _ _ _
      | exact dragomanref04_cut.mono _ _ _
      | exact LeO.none _
      | refine LeO.ite ?_ ?_
      | refine LeO.bind ?_ (fun _ => ?_)
set_option maxHeartbeats 8000000 in
set_option maxRecDepth 100000 in
theorem dragomanref04_Minus.calls (k : Nat) (a0_0 : Int) (a0_1 : Int) (a0_2 : Int) (a0_3 : Int) (a1_0 : Int) (a1_1 : Int) (a1_2 : Int) (a1_3 : Int) (r : List (S26)) (w : World) (h : dragomanref04_Minus.f k a0_0 a0_1 a0_2 a0_3 a1_0 a1_1 a1_2 a1_3 = some r) :
    Calls Try.prog 15 #[.agg #[.int .u32 a0_0, .int .i64 a0_1, .int .i64 a0_2, .int .i64 a0_3], .agg #[.int .u32 a1_0, .int .i64 a1_1, .int .i64 a1_2, .int .i64 a1_3]] w fun e w' => ∃ v0_ : Value, e = .returned (v0_) ∧ Kd.R k26 26 w' w.heap.size (fun _ => True) v0_ r ∧ Below w.heap.size w w' := by
  have hu26 := Try.underlying26
  have hu24 := Try.underlying24
  have HB := Aside0.mk (Below.refl w.heap.size w)
  have H : ((dragomanref04_Right.f k a0_0 a0_1 a0_2 a0_3).bind fun t183 => (if t183 = true then ((dragomanref04_Meet.f k a0_0 a0_1 a0_2 a0_3 a1_0 a1_1 a1_2 a1_3).bind fun bt184 => (if bt184.2.2.2.2 = true then (if a0_2 < bt184.2.2.1 then (if ([] : List (S26)).length < 4398046511104 then (dragomanref04_Minus.j0 k (([] : List (S26)) ++ [(⟨(⟨a0_0, a0_1⟩ : S24), a0_2, wrap64 (bt184.2.2.1 - 1)⟩ : S26)]) a0_0 a0_1 a0_2 a0_3 bt184.1 bt184.2.1 bt184.2.2.1 bt184.2.2.2.1) else (none)) else (dragomanref04_Minus.j0 k ([] : List (S26)) a0_0 a0_1 a0_2 a0_3 bt184.1 bt184.2.1 bt184.2.2.1 bt184.2.2.2.1)) else (some (([(⟨(⟨a0_0, a0_1⟩ : S24), a0_2, a0_3⟩ : S26)] : List (S26)))))) else (some ([] : List (S26))))) = some r := h
  clear h
  replace H := Option.bind_eq_some_iff.mp H
  obtain ⟨t183, A30, H⟩ := H
  replace H : (if t183 = true then ((dragomanref04_Meet.f k a0_0 a0_1 a0_2 a0_3 a1_0 a1_1 a1_2 a1_3).bind fun bt184 => (if bt184.2.2.2.2 = true then (if a0_2 < bt184.2.2.1 then (if ([] : List (S26)).length < 4398046511104 then (dragomanref04_Minus.j0 k (([] : List (S26)) ++ [(⟨(⟨a0_0, a0_1⟩ : S24), a0_2, wrap64 (bt184.2.2.1 - 1)⟩ : S26)]) a0_0 a0_1 a0_2 a0_3 bt184.1 bt184.2.1 bt184.2.2.1 bt184.2.2.2.1) else (none)) else (dragomanref04_Minus.j0 k ([] : List (S26)) a0_0 a0_1 a0_2 a0_3 bt184.1 bt184.2.1 bt184.2.2.1 bt184.2.2.2.1)) else (some (([(⟨(⟨a0_0, a0_1⟩ : S24), a0_2, a0_3⟩ : S26)] : List (S26)))))) else (some ([] : List (S26)))) = some r := H
  have A3 := Aside0.mk A30
  clear A30
  by_cases c4 : t183 = true
  · subst c4
    have H1 : ((dragomanref04_Meet.f k a0_0 a0_1 a0_2 a0_3 a1_0 a1_1 a1_2 a1_3).bind fun bt184 => (if bt184.2.2.2.2 = true then (if a0_2 < bt184.2.2.1 then (if ([] : List (S26)).length < 4398046511104 then (dragomanref04_Minus.j0 k (([] : List (S26)) ++ [(⟨(⟨a0_0, a0_1⟩ : S24), a0_2, wrap64 (bt184.2.2.1 - 1)⟩ : S26)]) a0_0 a0_1 a0_2 a0_3 bt184.1 bt184.2.1 bt184.2.2.1 bt184.2.2.2.1) else (none)) else (dragomanref04_Minus.j0 k ([] : List (S26)) a0_0 a0_1 a0_2 a0_3 bt184.1 bt184.2.1 bt184.2.2.1 bt184.2.2.2.1)) else (some (([(⟨(⟨a0_0, a0_1⟩ : S24), a0_2, a0_3⟩ : S26)] : List (S26)))))) = some r := by rw [if_pos rfl] at H; exact H
    clear H
    have H := H1
    clear H1
    replace H := Option.bind_eq_some_iff.mp H
    obtain ⟨⟨t184, t185, t186, t187, t188⟩, A50, H⟩ := H
    replace H : (if t188 = true then (if a0_2 < t186 then (if ([] : List (S26)).length < 4398046511104 then (dragomanref04_Minus.j0 k (([] : List (S26)) ++ [(⟨(⟨a0_0, a0_1⟩ : S24), a0_2, wrap64 (t186 - 1)⟩ : S26)]) a0_0 a0_1 a0_2 a0_3 t184 t185 t186 t187) else (none)) else (dragomanref04_Minus.j0 k ([] : List (S26)) a0_0 a0_1 a0_2 a0_3 t184 t185 t186 t187)) else (some (([(⟨(⟨a0_0, a0_1⟩ : S24), a0_2, a0_3⟩ : S26)] : List (S26))))) = some r := H
    have A5 := Aside0.mk A50
    clear A50
    by_cases c6 : t188 = true
    · subst c6
      have H1 : (if a0_2 < t186 then (if ([] : List (S26)).length < 4398046511104 then (dragomanref04_Minus.j0 k (([] : List (S26)) ++ [(⟨(⟨a0_0, a0_1⟩ : S24), a0_2, wrap64 (t186 - 1)⟩ : S26)]) a0_0 a0_1 a0_2 a0_3 t184 t185 t186 t187) else (none)) else (dragomanref04_Minus.j0 k ([] : List (S26)) a0_0 a0_1 a0_2 a0_3 t184 t185 t186 t187)) = some r := by rw [if_pos rfl] at H; exact H
      clear H
      have H := H1
      clear H1
      have HC7 := Aside0.mk H
      clear H
      go_enter Try.func15, Try.ntmps15
      go_upto_if 29 with (first | ((with_reducible refine gate_dst (N := 2) rfl ?_); refine box_event ?hg (N := 2) ?hd (cs := #[.int .u32 a0_0, .int .i64 a0_1, .int .i64 a0_2, .int .i64 a0_3]) (t := 26) ?hr ?_; (case hd => rfl); (case hg => rfl); (case hr => first | (go_simp; done) | (go_simp; rfl)); intro gb181 hg w8 hbox hb; have n0_ := Aside0.mk (below_step (by repeat (first | (with_reducible first | exact HB.out | apply below_alloc | apply pw_below_drewN | apply below_drew1) | exact HB.out)) hb); have n1_ := Aside0.mk (hbox); have n2_ := Aside0.mk ((by rw [hg]; exact (below_size (by repeat (first | (with_reducible first | exact HB.out | apply below_alloc | apply pw_below_drewN | apply below_drew1) | exact HB.out))) : w.heap.size ≤ gb181)); have n3_ := Aside0.mk ((by rw [hg]; exact (below_size (by repeat (first | (with_reducible first | exact HB.out | apply below_alloc | apply pw_below_drewN | apply below_drew1) | exact HB.out))) : w.heap.size ≤ gb181)); clear HB; have HB := n0_; have BK181 := n1_; have GW181 := n2_; have GE181 := n3_; clear n0_ n1_ n2_ n3_; clear hb hbox hg) | ((with_reducible refine gate_dst (N := 3) rfl ?_); refine box_event ?hg (N := 3) ?hd (cs := #[.int .u32 a1_0, .int .i64 a1_1, .int .i64 a1_2, .int .i64 a1_3]) (t := 26) ?hr ?_; (case hd => rfl); (case hg => rfl); (case hr => first | (go_simp; done) | (go_simp; rfl)); intro gb182 hg w9 hbox hb; have n0_ := Aside0.mk (blk_below (g := gb181) (o := .cells #[.int .u32 a0_0, .int .i64 a0_1, .int .i64 a0_2, .int .i64 a0_3] 26 (0, 0)) (by (with_reducible repeat (first | refine blk_drewN ?_ _ | refine blk_drew ?_ | refine blk_alloc ?_ _)); exact BK181.out) hb); have n1_ := Aside0.mk (below_step (by repeat (first | (with_reducible first | exact HB.out | apply below_alloc | apply pw_below_drewN | apply below_drew1 | refine below_set ?_ GE181.out) | exact HB.out)) hb); have n2_ := Aside0.mk (hbox); have n3_ := Aside0.mk ((by rw [hg]; exact (below_size (by repeat (first | (with_reducible first | exact HB.out | apply below_alloc | apply pw_below_drewN | apply below_drew1 | refine below_set ?_ GE181.out) | exact HB.out))) : w.heap.size ≤ gb182)); have n4_ := Aside0.mk ((by rw [hg]; exact (below_size (by repeat (first | (with_reducible first | exact HB.out | apply below_alloc | apply pw_below_drewN | apply below_drew1 | refine below_set ?_ GE181.out) | exact HB.out))) : w.heap.size ≤ gb182)); have n5_ := Aside0.mk ((by rw [hg]; exact Nat.ne_of_lt (blk_lt (g := gb181) (o := .cells #[.int .u32 a0_0, .int .i64 a0_1, .int .i64 a0_2, .int .i64 a0_3] 26 (0, 0)) (by (with_reducible repeat (first | refine blk_drewN ?_ _ | refine blk_drew ?_ | refine blk_alloc ?_ _)); exact BK181.out)) : gb181 ≠ gb182)); have n6_ := Aside0.mk ((by rw [hg]; exact Nat.ne_of_gt (blk_lt (g := gb181) (o := .cells #[.int .u32 a0_0, .int .i64 a0_1, .int .i64 a0_2, .int .i64 a0_3] 26 (0, 0)) (by (with_reducible repeat (first | refine blk_drewN ?_ _ | refine blk_drew ?_ | refine blk_alloc ?_ _)); exact BK181.out)) : gb182 ≠ gb181)); clear BK181; clear HB; have BK181 := n0_; have HB := n1_; have BK182 := n2_; have GW182 := n3_; have GE182 := n4_; have NB181_182 := n5_; have NB182_181 := n6_; clear n0_ n1_ n2_ n3_ n4_ n5_ n6_; clear hb hbox hg; have hnb10 := NB181_182.out; have hnc10 := NB182_181.out; have hcz11_0 : w9.cell? ⟨gb181, 0, none⟩ = some (.int .u32 a0_0) := (blk_cell BK181.out 0).trans rfl; have hcz11_1 : w9.cell? ⟨gb181, 1, none⟩ = some (.int .i64 a0_1) := (blk_cell BK181.out 1).trans rfl; have hcz11_2 : w9.cell? ⟨gb181, 2, none⟩ = some (.int .i64 a0_2) := (blk_cell BK181.out 2).trans rfl; have hcz11_3 : w9.cell? ⟨gb181, 3, none⟩ = some (.int .i64 a0_3) := (blk_cell BK181.out 3).trans rfl; have hfz11_0 := blk_frozen BK181.out 0; have hfz11_1 := blk_frozen BK181.out 1; have hfz11_2 := blk_frozen BK181.out 2; have hfz11_3 := blk_frozen BK181.out 3) | ((with_reducible refine gate_callee (f := 20) rfl ?_); refine goesL_ (some 13) rfl rfl Try.func20 (by kernel_rfl) rfl #[.agg #[.int .u32 a0_0, .int .i64 a0_1, .int .i64 a0_2, .int .i64 a0_3]] rfl (by (try simp only [List.map_toArray, List.map_cons, List.map_nil]); first | done | rfl | (simp only [List.length_drop, List.length_take]; rfl)) ?_; (with_reducible refine (dragomanref04_Right.calls k a0_0 a0_1 a0_2 a0_3 true _ A3.out).mono ?_); rintro e w12 ⟨rfl, hb⟩; refine ⟨_, rfl, ?_⟩; have n0_ := Aside0.mk (blk_below (g := gb181) (o := .cells #[.int .u32 a0_0, .int .i64 a0_1, .int .i64 a0_2, .int .i64 a0_3] 26 (0, 0)) (by (with_reducible repeat (first | refine blk_drewN ?_ _ | refine blk_drew ?_ | refine blk_alloc ?_ _)); exact BK181.out) hb); have n1_ := Aside0.mk (blk_below (g := gb182) (o := .cells #[.int .u32 a1_0, .int .i64 a1_1, .int .i64 a1_2, .int .i64 a1_3] 26 (0, 0)) (by (with_reducible repeat (first | refine blk_drewN ?_ _ | refine blk_drew ?_ | refine blk_alloc ?_ _)); exact BK182.out) hb); have n2_ := Aside0.mk (below_step (by repeat (first | (with_reducible first | exact HB.out | apply below_alloc | apply pw_below_drewN | apply below_drew1 | refine below_set ?_ GE181.out | refine below_set ?_ GE182.out) | exact HB.out)) hb); clear BK181; clear BK182; clear HB; have BK181 := n0_; have BK182 := n1_; have HB := n2_; clear n0_ n1_ n2_; (try clear hb); (try clear hb2); (try clear hk); (try clear hi); have hcz13_0 : w12.cell? ⟨gb181, 0, none⟩ = some (.int .u32 a0_0) := (blk_cell BK181.out 0).trans rfl; have hcz13_1 : w12.cell? ⟨gb181, 1, none⟩ = some (.int .i64 a0_1) := (blk_cell BK181.out 1).trans rfl; have hcz13_2 : w12.cell? ⟨gb181, 2, none⟩ = some (.int .i64 a0_2) := (blk_cell BK181.out 2).trans rfl; have hcz13_3 : w12.cell? ⟨gb181, 3, none⟩ = some (.int .i64 a0_3) := (blk_cell BK181.out 3).trans rfl; have hfz13_0 := blk_frozen BK181.out 0; have hfz13_1 := blk_frozen BK181.out 1; have hfz13_2 := blk_frozen BK181.out 2; have hfz13_3 := blk_frozen BK181.out 3; have hcz14_0 : w12.cell? ⟨gb182, 0, none⟩ = some (.int .u32 a1_0) := (blk_cell BK182.out 0).trans rfl; have hcz14_1 : w12.cell? ⟨gb182, 1, none⟩ = some (.int .i64 a1_1) := (blk_cell BK182.out 1).trans rfl; have hcz14_2 : w12.cell? ⟨gb182, 2, none⟩ = some (.int .i64 a1_2) := (blk_cell BK182.out 2).trans rfl; have hcz14_3 : w12.cell? ⟨gb182, 3, none⟩ = some (.int .i64 a1_3) := (blk_cell BK182.out 3).trans rfl; have hfz14_0 := blk_frozen BK182.out 0; have hfz14_1 := blk_frozen BK182.out 1; have hfz14_2 := blk_frozen BK182.out 2; have hfz14_3 := blk_frozen BK182.out 3) | ((with_reducible refine gate_callee (f := 12) rfl ?_); refine goesL_ (some 18) rfl rfl Try.func12 (by kernel_rfl) rfl #[.agg #[.int .u32 a0_0, .int .i64 a0_1, .int .i64 a0_2, .int .i64 a0_3], .agg #[.int .u32 a1_0, .int .i64 a1_1, .int .i64 a1_2, .int .i64 a1_3]] rfl (by (try simp only [List.map_toArray, List.map_cons, List.map_nil]); first | done | rfl | (simp only [List.length_drop, List.length_take]; rfl)) ?_; (with_reducible refine (dragomanref04_Meet.calls k a0_0 a0_1 a0_2 a0_3 a1_0 a1_1 a1_2 a1_3 t184 t185 t186 t187 true _ A5.out).mono ?_); rintro e w15 ⟨rfl, hb⟩; refine ⟨_, rfl, ?_⟩; have n0_ := Aside0.mk (blk_below (g := gb181) (o := .cells #[.int .u32 a0_0, .int .i64 a0_1, .int .i64 a0_2, .int .i64 a0_3] 26 (0, 0)) (by (with_reducible repeat (first | refine blk_drewN ?_ _ | refine blk_drew ?_ | refine blk_alloc ?_ _)); exact BK181.out) hb); have n1_ := Aside0.mk (blk_below (g := gb182) (o := .cells #[.int .u32 a1_0, .int .i64 a1_1, .int .i64 a1_2, .int .i64 a1_3] 26 (0, 0)) (by (with_reducible repeat (first | refine blk_drewN ?_ _ | refine blk_drew ?_ | refine blk_alloc ?_ _)); exact BK182.out) hb); have n2_ := Aside0.mk (below_step (by repeat (first | (with_reducible first | exact HB.out | apply below_alloc | apply pw_below_drewN | apply below_drew1 | refine below_set ?_ GE181.out | refine below_set ?_ GE182.out) | exact HB.out)) hb); clear BK181; clear BK182; clear HB; have BK181 := n0_; have BK182 := n1_; have HB := n2_; clear n0_ n1_ n2_; (try clear hb); (try clear hb2); (try clear hk); (try clear hi)) | ((with_reducible refine gate_dst (N := 5) rfl ?_); refine box_event ?hg (N := 5) ?hd (cs := #[.int .u32 0, .int .i64 0, .int .i64 0, .int .i64 0]) (t := 26) ?hr ?_; (case hd => rfl); (case hg => rfl); (case hr => first | (go_simp; done) | (go_simp; rfl)); intro gb189 hg w16 hbox hb; have n0_ := Aside0.mk (blk_below (g := gb181) (o := .cells #[.int .u32 a0_0, .int .i64 a0_1, .int .i64 a0_2, .int .i64 a0_3] 26 (0, 0)) (by (with_reducible repeat (first | refine blk_drewN ?_ _ | refine blk_drew ?_ | refine blk_alloc ?_ _)); exact BK181.out) hb); have n1_ := Aside0.mk (blk_below (g := gb182) (o := .cells #[.int .u32 a1_0, .int .i64 a1_1, .int .i64 a1_2, .int .i64 a1_3] 26 (0, 0)) (by (with_reducible repeat (first | refine blk_drewN ?_ _ | refine blk_drew ?_ | refine blk_alloc ?_ _)); exact BK182.out) hb); have n2_ := Aside0.mk (below_step (by repeat (first | (with_reducible first | exact HB.out | apply below_alloc | apply pw_below_drewN | apply below_drew1 | refine below_set ?_ GE181.out | refine below_set ?_ GE182.out) | exact HB.out)) hb); have n3_ := Aside0.mk (hbox); have n4_ := Aside0.mk ((by rw [hg]; exact (below_size (by repeat (first | (with_reducible first | exact HB.out | apply below_alloc | apply pw_below_drewN | apply below_drew1 | refine below_set ?_ GE181.out | refine below_set ?_ GE182.out) | exact HB.out))) : w.heap.size ≤ gb189)); have n5_ := Aside0.mk ((by rw [hg]; exact (below_size (by repeat (first | (with_reducible first | exact HB.out | apply below_alloc | apply pw_below_drewN | apply below_drew1 | refine below_set ?_ GE181.out | refine below_set ?_ GE182.out) | exact HB.out))) : w.heap.size ≤ gb189)); have n6_ := Aside0.mk ((by rw [hg]; exact Nat.ne_of_lt (blk_lt (g := gb181) (o := .cells #[.int .u32 a0_0, .int .i64 a0_1, .int .i64 a0_2, .int .i64 a0_3] 26 (0, 0)) (by (with_reducible repeat (first | refine blk_drewN ?_ _ | refine blk_drew ?_ | refine blk_alloc ?_ _)); exact BK181.out)) : gb181 ≠ gb189)); have n7_ := Aside0.mk ((by rw [hg]; exact Nat.ne_of_gt (blk_lt (g := gb181) (o := .cells #[.int .u32 a0_0, .int .i64 a0_1, .int .i64 a0_2, .int .i64 a0_3] 26 (0, 0)) (by (with_reducible repeat (first | refine blk_drewN ?_ _ | refine blk_drew ?_ | refine blk_alloc ?_ _)); exact BK181.out)) : gb189 ≠ gb181)); have n8_ := Aside0.mk ((by rw [hg]; exact Nat.ne_of_lt (blk_lt (g := gb182) (o := .cells #[.int .u32 a1_0, .int .i64 a1_1, .int .i64 a1_2, .int .i64 a1_3] 26 (0, 0)) (by (with_reducible repeat (first | refine blk_drewN ?_ _ | refine blk_drew ?_ | refine blk_alloc ?_ _)); exact BK182.out)) : gb182 ≠ gb189)); have n9_ := Aside0.mk ((by rw [hg]; exact Nat.ne_of_gt (blk_lt (g := gb182) (o := .cells #[.int .u32 a1_0, .int .i64 a1_1, .int .i64 a1_2, .int .i64 a1_3] 26 (0, 0)) (by (with_reducible repeat (first | refine blk_drewN ?_ _ | refine blk_drew ?_ | refine blk_alloc ?_ _)); exact BK182.out)) : gb189 ≠ gb182)); clear BK181; clear BK182; clear HB; have BK181 := n0_; have BK182 := n1_; have HB := n2_; have BK189 := n3_; have GW189 := n4_; have GE189 := n5_; have NB181_189 := n6_; have NB189_181 := n7_; have NB182_189 := n8_; have NB189_182 := n9_; clear n0_ n1_ n2_ n3_ n4_ n5_ n6_ n7_ n8_ n9_; clear hb hbox hg; have hnb17 := NB189_181.out; have hnc17 := NB181_189.out; have hnb18 := NB189_182.out; have hnc18 := NB182_189.out; have hcz19_0 : w16.cell? ⟨gb189, 0, none⟩ = some (.int .u32 0) := (blk_cell BK189.out 0).trans rfl; have hcz19_1 : w16.cell? ⟨gb189, 1, none⟩ = some (.int .i64 0) := (blk_cell BK189.out 1).trans rfl; have hcz19_2 : w16.cell? ⟨gb189, 2, none⟩ = some (.int .i64 0) := (blk_cell BK189.out 2).trans rfl; have hcz19_3 : w16.cell? ⟨gb189, 3, none⟩ = some (.int .i64 0) := (blk_cell BK189.out 3).trans rfl; have hfz19_0 := blk_frozen BK189.out 0; have hfz19_1 := blk_frozen BK189.out 1; have hfz19_2 := blk_frozen BK189.out 2; have hfz19_3 := blk_frozen BK189.out 3; have hcz20_0 : w16.cell? ⟨gb181, 0, none⟩ = some (.int .u32 a0_0) := (blk_cell BK181.out 0).trans rfl; have hcz20_1 : w16.cell? ⟨gb181, 1, none⟩ = some (.int .i64 a0_1) := (blk_cell BK181.out 1).trans rfl; have hcz20_2 : w16.cell? ⟨gb181, 2, none⟩ = some (.int .i64 a0_2) := (blk_cell BK181.out 2).trans rfl; have hcz20_3 : w16.cell? ⟨gb181, 3, none⟩ = some (.int .i64 a0_3) := (blk_cell BK181.out 3).trans rfl; have hfz20_0 := blk_frozen BK181.out 0; have hfz20_1 := blk_frozen BK181.out 1; have hfz20_2 := blk_frozen BK181.out 2; have hfz20_3 := blk_frozen BK181.out 3))
      (try simp only [Act.put, List.setIfInBounds_toArray, List.set_cons_zero, List.set_cons_succ])
      go_cut [7] (fun v7 wc => ∃ (kq : Nat) (x7_6 : List (S26)), Aside0 (dragomanref04_Minus.j0 kq x7_6 a0_0 a0_1 a0_2 a0_3 t184 t185 t186 t187 = some r) ∧ Aside0 (kq ≤ k) ∧ Aside0 (Kd.R k26 26 wc w.heap.size (fun k_ => k_ ≠ gb181 ∧ k_ ≠ gb182 ∧ k_ ≠ gb189) v7 x7_6) ∧ Aside0 (wc.heap[gb181]? = some (.cells #[.int .u32 a0_0, .int .i64 a0_1, .int .i64 a0_2, .int .i64 a0_3] 26 (0, 0))) ∧ Aside0 (wc.heap[gb182]? = some (.cells #[.int .u32 a1_0, .int .i64 a1_1, .int .i64 a1_2, .int .i64 a1_3] 26 (0, 0))) ∧ Aside0 (wc.heap[gb189]? = some (.cells #[.int .u32 t184, .int .i64 t185, .int .i64 t186, .int .i64 t187] 26 (0, 0))) ∧ Aside0 (Below w.heap.size w wc))
      case first =>
        have H := HC7.out
        clear HC7
        by_cases c21 : a0_2 < t186
        · rw [if_pos c21] at H
          have c21b0 : decide (a0_2 < t186) = true := decide_eq_true c21
          clear c21
          (first | rw [c21b0] | (simp only [i64_w, i32_w]; rw [c21b0]) | skip)
          by_cases c22 : ([] : List (S26)).length < 4398046511104
          · rw [if_pos c22] at H
            have LMc22 := Aside0.mk c22
            clear c22
            obtain ⟨y193, hy193⟩ : ∃ y_ : List (S26), y_ = (([] : List (S26)) ++ [(⟨(⟨a0_0, a0_1⟩ : S24), a0_2, wrap64 (t186 - 1)⟩ : S26)]) := ⟨_, rfl⟩
            replace H : (dragomanref04_Minus.j0 k y193 a0_0 a0_1 a0_2 a0_3 t184 t185 t186 t187) = some r := by first | (rw [hy193]; with_reducible exact H) | (have H2_ := (Option.bind_some _ _).symm.trans H; rw [hy193]; with_reducible exact H2_) | (have H2_ := (Option.bind_some _ _).symm.trans H; with_reducible exact H2_) | with_reducible exact H | (rw [hy193]; exact H) | exact H
            have Ny193 := Aside0.mk hy193
            clear hy193
            have H' := Aside0.mk H
            clear H
            have hnb23 := NB181_182.out
            have hnc23 := NB182_181.out
            have hnb24 := NB181_189.out
            have hnc24 := NB189_181.out
            have hcz25_0 : w16.cell? ⟨gb181, 0, none⟩ = some (.int .u32 a0_0) := (blk_cell BK181.out 0).trans rfl
            have hcz25_1 : w16.cell? ⟨gb181, 1, none⟩ = some (.int .i64 a0_1) := (blk_cell BK181.out 1).trans rfl
            have hcz25_2 : w16.cell? ⟨gb181, 2, none⟩ = some (.int .i64 a0_2) := (blk_cell BK181.out 2).trans rfl
            have hcz25_3 : w16.cell? ⟨gb181, 3, none⟩ = some (.int .i64 a0_3) := (blk_cell BK181.out 3).trans rfl
            have hfz25_0 := blk_frozen BK181.out 0
            have hfz25_1 := blk_frozen BK181.out 1
            have hfz25_2 := blk_frozen BK181.out 2
            have hfz25_3 := blk_frozen BK181.out 3
            have hnb26 := NB189_182.out
            have hnc26 := NB182_189.out
            have hcz27_0 : w16.cell? ⟨gb189, 0, none⟩ = some (.int .u32 0) := (blk_cell BK189.out 0).trans rfl
            have hcz27_1 : w16.cell? ⟨gb189, 1, none⟩ = some (.int .i64 0) := (blk_cell BK189.out 1).trans rfl
            have hcz27_2 : w16.cell? ⟨gb189, 2, none⟩ = some (.int .i64 0) := (blk_cell BK189.out 2).trans rfl
            have hcz27_3 : w16.cell? ⟨gb189, 3, none⟩ = some (.int .i64 0) := (blk_cell BK189.out 3).trans rfl
            have hfz27_0 := blk_frozen BK189.out 0
            have hfz27_1 := blk_frozen BK189.out 1
            have hfz27_2 := blk_frozen BK189.out 2
            have hfz27_3 := blk_frozen BK189.out 3
            go_wp2_with (first | ((with_reducible refine gate_builtin (b := .append) (xs := #[.tmp 30, .tmp 39]) rfl ?_); at_builtin; refine Kd.R_append k26 (w0 := w) w.heap.size rfl (.tmp 30) (.tmp 39) 31 26 (.agg #[(.int .u32 0), (.int .i64 0), (.int .i64 0), (.int .i64 0)]) 32 rfl Try.underlying31 info26 rfl (by decide) (by omega) (.slice none 0 0) ([] : List (S26)) (⟨(⟨a0_0, a0_1⟩ : S24), a0_2, wrap64 (t186 - 1)⟩ : S26) [.int .u32 a0_0, .int .i64 a0_1, .int .i64 a0_2, .int .i64 (wrap64 (t186 - 1))] (fun k_ => k_ ≠ gb181 ∧ k_ ≠ gb182 ∧ k_ ≠ gb189) (fun _ => False) rfl (by first | (go_simp; done) | (go_simp; rfl)) ?aP (fun _ hk => hk.elim) ?aF ?aO ?aB ?aS ?aL ?_; (case aP => exact k26_mkM _ _ _ (⟨(⟨a0_0, a0_1⟩ : S24), a0_2, wrap64 (t186 - 1)⟩ : S26)); (case aB => exact (by repeat (first | (with_reducible first | exact HB.out | apply below_alloc | apply pw_below_drewN | apply below_drew1 | refine below_set ?_ GE181.out | refine below_set ?_ GE182.out | refine below_set ?_ GE189.out) | exact HB.out))); (case aF => exact (fun k_ hk => ⟨Kd.freshB (g := gb181) (o := .cells #[.int .u32 a0_0, .int .i64 a0_1, .int .i64 a0_2, .int .i64 a0_3] 26 (0, 0)) (by (with_reducible repeat (first | refine blk_drewN ?_ _ | refine blk_drew ?_ | refine blk_alloc ?_ _)); refine blk_far ?_ NB181_189.out _; (with_reducible repeat (first | refine blk_drewN ?_ _ | refine blk_drew ?_ | refine blk_alloc ?_ _)); refine blk_far ?_ NB181_189.out _; (with_reducible repeat (first | refine blk_drewN ?_ _ | refine blk_drew ?_ | refine blk_alloc ?_ _)); refine blk_far ?_ NB181_189.out _; (with_reducible repeat (first | refine blk_drewN ?_ _ | refine blk_drew ?_ | refine blk_alloc ?_ _)); refine blk_far ?_ NB181_189.out _; (with_reducible repeat (first | refine blk_drewN ?_ _ | refine blk_drew ?_ | refine blk_alloc ?_ _)); exact BK181.out) k_ hk, Kd.freshB (g := gb182) (o := .cells #[.int .u32 a1_0, .int .i64 a1_1, .int .i64 a1_2, .int .i64 a1_3] 26 (0, 0)) (by (with_reducible repeat (first | refine blk_drewN ?_ _ | refine blk_drew ?_ | refine blk_alloc ?_ _)); refine blk_far ?_ NB182_189.out _; (with_reducible repeat (first | refine blk_drewN ?_ _ | refine blk_drew ?_ | refine blk_alloc ?_ _)); refine blk_far ?_ NB182_189.out _; (with_reducible repeat (first | refine blk_drewN ?_ _ | refine blk_drew ?_ | refine blk_alloc ?_ _)); refine blk_far ?_ NB182_189.out _; (with_reducible repeat (first | refine blk_drewN ?_ _ | refine blk_drew ?_ | refine blk_alloc ?_ _)); refine blk_far ?_ NB182_189.out _; (with_reducible repeat (first | refine blk_drewN ?_ _ | refine blk_drew ?_ | refine blk_alloc ?_ _)); exact BK182.out) k_ hk, Kd.freshB (g := gb189) (o := .cells #[.int .u32 t184, .int .i64 t185, .int .i64 t186, .int .i64 t187] 26 (0, 0)) (by (with_reducible repeat (first | refine blk_drewN ?_ _ | refine blk_drew ?_ | refine blk_alloc ?_ _)); refine blk_put (cs := #[.int .u32 t184, .int .i64 t185, .int .i64 t186, .int .i64 0]) ?_ 3 _ rfl; (with_reducible repeat (first | refine blk_drewN ?_ _ | refine blk_drew ?_ | refine blk_alloc ?_ _)); refine blk_put (cs := #[.int .u32 t184, .int .i64 t185, .int .i64 0, .int .i64 0]) ?_ 2 _ rfl; (with_reducible repeat (first | refine blk_drewN ?_ _ | refine blk_drew ?_ | refine blk_alloc ?_ _)); refine blk_put (cs := #[.int .u32 t184, .int .i64 0, .int .i64 0, .int .i64 0]) ?_ 1 _ rfl; (with_reducible repeat (first | refine blk_drewN ?_ _ | refine blk_drew ?_ | refine blk_alloc ?_ _)); refine blk_put (cs := #[.int .u32 0, .int .i64 0, .int .i64 0, .int .i64 0]) ?_ 0 _ rfl; (with_reducible repeat (first | refine blk_drewN ?_ _ | refine blk_drew ?_ | refine blk_alloc ?_ _)); exact BK189.out) k_ hk⟩)); (case aO => exact ((Kd.R_nil _ _ _ _ (fun k_ => k_ ≠ gb181 ∧ k_ ≠ gb182 ∧ k_ ≠ gb189)))); (case aS => exact (below_size (by repeat (first | (with_reducible first | exact HB.out | apply below_alloc | apply pw_below_drewN | apply below_drew1 | refine below_set ?_ GE181.out | refine below_set ?_ GE182.out | refine below_set ?_ GE189.out) | exact HB.out)))); (case aL => have := LMc22.out; omega); intro v194 w28 ho hb hg hat; rw [← Ny193.out] at ho; have n0_ := Aside0.mk (blk_grown (g := gb181) (o := .cells #[.int .u32 a0_0, .int .i64 a0_1, .int .i64 a0_2, .int .i64 a0_3] 26 (0, 0)) (by (with_reducible repeat (first | refine blk_drewN ?_ _ | refine blk_drew ?_ | refine blk_alloc ?_ _)); refine blk_far ?_ NB181_189.out _; (with_reducible repeat (first | refine blk_drewN ?_ _ | refine blk_drew ?_ | refine blk_alloc ?_ _)); refine blk_far ?_ NB181_189.out _; (with_reducible repeat (first | refine blk_drewN ?_ _ | refine blk_drew ?_ | refine blk_alloc ?_ _)); refine blk_far ?_ NB181_189.out _; (with_reducible repeat (first | refine blk_drewN ?_ _ | refine blk_drew ?_ | refine blk_alloc ?_ _)); refine blk_far ?_ NB181_189.out _; (with_reducible repeat (first | refine blk_drewN ?_ _ | refine blk_drew ?_ | refine blk_alloc ?_ _)); exact BK181.out) hg (by simp [Value.ownBlock])); have n1_ := Aside0.mk (blk_grown (g := gb182) (o := .cells #[.int .u32 a1_0, .int .i64 a1_1, .int .i64 a1_2, .int .i64 a1_3] 26 (0, 0)) (by (with_reducible repeat (first | refine blk_drewN ?_ _ | refine blk_drew ?_ | refine blk_alloc ?_ _)); refine blk_far ?_ NB182_189.out _; (with_reducible repeat (first | refine blk_drewN ?_ _ | refine blk_drew ?_ | refine blk_alloc ?_ _)); refine blk_far ?_ NB182_189.out _; (with_reducible repeat (first | refine blk_drewN ?_ _ | refine blk_drew ?_ | refine blk_alloc ?_ _)); refine blk_far ?_ NB182_189.out _; (with_reducible repeat (first | refine blk_drewN ?_ _ | refine blk_drew ?_ | refine blk_alloc ?_ _)); refine blk_far ?_ NB182_189.out _; (with_reducible repeat (first | refine blk_drewN ?_ _ | refine blk_drew ?_ | refine blk_alloc ?_ _)); exact BK182.out) hg (by simp [Value.ownBlock])); have n2_ := Aside0.mk (blk_grown (g := gb189) (o := .cells #[.int .u32 t184, .int .i64 t185, .int .i64 t186, .int .i64 t187] 26 (0, 0)) (by (with_reducible repeat (first | refine blk_drewN ?_ _ | refine blk_drew ?_ | refine blk_alloc ?_ _)); refine blk_put (cs := #[.int .u32 t184, .int .i64 t185, .int .i64 t186, .int .i64 0]) ?_ 3 _ rfl; (with_reducible repeat (first | refine blk_drewN ?_ _ | refine blk_drew ?_ | refine blk_alloc ?_ _)); refine blk_put (cs := #[.int .u32 t184, .int .i64 t185, .int .i64 0, .int .i64 0]) ?_ 2 _ rfl; (with_reducible repeat (first | refine blk_drewN ?_ _ | refine blk_drew ?_ | refine blk_alloc ?_ _)); refine blk_put (cs := #[.int .u32 t184, .int .i64 0, .int .i64 0, .int .i64 0]) ?_ 1 _ rfl; (with_reducible repeat (first | refine blk_drewN ?_ _ | refine blk_drew ?_ | refine blk_alloc ?_ _)); refine blk_put (cs := #[.int .u32 0, .int .i64 0, .int .i64 0, .int .i64 0]) ?_ 0 _ rfl; (with_reducible repeat (first | refine blk_drewN ?_ _ | refine blk_drew ?_ | refine blk_alloc ?_ _)); exact BK189.out) hg (by simp [Value.ownBlock])); have n3_ := Aside0.mk (hb); have n4_ := Aside0.mk (ho); clear BK181; clear BK182; clear BK189; clear HB; have BK181 := n0_; have BK182 := n1_; have BK189 := n2_; have HB := n3_; have HO195 := n4_; clear n0_ n1_ n2_ n3_ n4_; clear ho hb hg hat))
            go_meet
            case rel => exact ⟨_, (y193), H', ⟨by first | omega | exact Nat.le_refl _⟩, ⟨by (with_reducible repeat (first | apply Kd.R_alloc | apply Kd.R_drewN | apply Kd.R_drew)); exact HO195.out⟩, ⟨by (with_reducible repeat (first | refine blk_drewN ?_ _ | refine blk_drew ?_ | refine blk_alloc ?_ _)); exact BK181.out⟩, ⟨by (with_reducible repeat (first | refine blk_drewN ?_ _ | refine blk_drew ?_ | refine blk_alloc ?_ _)); exact BK182.out⟩, ⟨by (with_reducible repeat (first | refine blk_drewN ?_ _ | refine blk_drew ?_ | refine blk_alloc ?_ _)); exact BK189.out⟩, ⟨by repeat (first | (with_reducible first | exact HB.out | apply below_alloc | apply pw_below_drewN | apply below_drew1 | refine below_set ?_ GE181.out | refine below_set ?_ GE182.out | refine below_set ?_ GE189.out) | exact HB.out)⟩⟩
          · rw [if_neg c22] at H
            exact absurd H (by simp)
        · rw [if_neg c21] at H
          have c21b0 : decide (a0_2 < t186) = false := decide_eq_false c21
          clear c21
          (first | rw [c21b0] | (simp only [i64_w, i32_w]; rw [c21b0]) | skip)
          have H' := Aside0.mk H
          clear H
          go_wp2
          go_meet
          case rel => exact ⟨_, (([] : List (S26))), H', ⟨by first | omega | exact Nat.le_refl _⟩, ⟨by first | exact Kd.R_nil _ _ _ _ _ | exact Kd.N_nil _ _ _ _ _ | exact Kd.V_nil _ _ _ _ _ | exact Kd.Q_nil _ _ _ _ _ | exact Kd.S_nil _ _ _ _ _⟩, ⟨by (with_reducible repeat (first | refine blk_drewN ?_ _ | refine blk_drew ?_ | refine blk_alloc ?_ _)); refine blk_far ?_ NB181_189.out _; (with_reducible repeat (first | refine blk_drewN ?_ _ | refine blk_drew ?_ | refine blk_alloc ?_ _)); refine blk_far ?_ NB181_189.out _; (with_reducible repeat (first | refine blk_drewN ?_ _ | refine blk_drew ?_ | refine blk_alloc ?_ _)); refine blk_far ?_ NB181_189.out _; (with_reducible repeat (first | refine blk_drewN ?_ _ | refine blk_drew ?_ | refine blk_alloc ?_ _)); refine blk_far ?_ NB181_189.out _; (with_reducible repeat (first | refine blk_drewN ?_ _ | refine blk_drew ?_ | refine blk_alloc ?_ _)); exact BK181.out⟩, ⟨by (with_reducible repeat (first | refine blk_drewN ?_ _ | refine blk_drew ?_ | refine blk_alloc ?_ _)); refine blk_far ?_ NB182_189.out _; (with_reducible repeat (first | refine blk_drewN ?_ _ | refine blk_drew ?_ | refine blk_alloc ?_ _)); refine blk_far ?_ NB182_189.out _; (with_reducible repeat (first | refine blk_drewN ?_ _ | refine blk_drew ?_ | refine blk_alloc ?_ _)); refine blk_far ?_ NB182_189.out _; (with_reducible repeat (first | refine blk_drewN ?_ _ | refine blk_drew ?_ | refine blk_alloc ?_ _)); refine blk_far ?_ NB182_189.out _; (with_reducible repeat (first | refine blk_drewN ?_ _ | refine blk_drew ?_ | refine blk_alloc ?_ _)); exact BK182.out⟩, ⟨by (with_reducible repeat (first | refine blk_drewN ?_ _ | refine blk_drew ?_ | refine blk_alloc ?_ _)); refine blk_put (cs := #[.int .u32 t184, .int .i64 t185, .int .i64 t186, .int .i64 0]) ?_ 3 _ rfl; (with_reducible repeat (first | refine blk_drewN ?_ _ | refine blk_drew ?_ | refine blk_alloc ?_ _)); refine blk_put (cs := #[.int .u32 t184, .int .i64 t185, .int .i64 0, .int .i64 0]) ?_ 2 _ rfl; (with_reducible repeat (first | refine blk_drewN ?_ _ | refine blk_drew ?_ | refine blk_alloc ?_ _)); refine blk_put (cs := #[.int .u32 t184, .int .i64 0, .int .i64 0, .int .i64 0]) ?_ 1 _ rfl; (with_reducible repeat (first | refine blk_drewN ?_ _ | refine blk_drew ?_ | refine blk_alloc ?_ _)); refine blk_put (cs := #[.int .u32 0, .int .i64 0, .int .i64 0, .int .i64 0]) ?_ 0 _ rfl; (with_reducible repeat (first | refine blk_drewN ?_ _ | refine blk_drew ?_ | refine blk_alloc ?_ _)); exact BK189.out⟩, ⟨by repeat (first | (with_reducible first | exact HB.out | apply below_alloc | apply pw_below_drewN | apply below_drew1 | refine below_set ?_ GE181.out | refine below_set ?_ GE182.out | refine below_set ?_ GE189.out) | exact HB.out)⟩⟩
      case rest =>
        clear HC7
        try clear c1
        try clear c2
        try clear p2
        try clear c4
        try clear c6
        try clear p6
        try clear c10
        try clear c12
        try clear c15
        try clear c17
        try clear c18
        try clear c20
        try clear c21
        try clear c21b0
        try clear c22
        try clear c23
        try clear c24
        try clear c26
        try clear hcz11_0
        try clear hcz11_1
        try clear hcz11_2
        try clear hcz11_3
        try clear hcz13_0
        try clear hcz13_1
        try clear hcz13_2
        try clear hcz13_3
        try clear hcz14_0
        try clear hcz14_1
        try clear hcz14_2
        try clear hcz14_3
        try clear hcz19_0
        try clear hcz19_1
        try clear hcz19_2
        try clear hcz19_3
        try clear hcz20_0
        try clear hcz20_1
        try clear hcz20_2
        try clear hcz20_3
        try clear hcz25_0
        try clear hcz25_1
        try clear hcz25_2
        try clear hcz25_3
        try clear hcz27_0
        try clear hcz27_1
        try clear hcz27_2
        try clear hcz27_3
        try clear hfz11_0
        try clear hfz11_1
        try clear hfz11_2
        try clear hfz11_3
        try clear hfz13_0
        try clear hfz13_1
        try clear hfz13_2
        try clear hfz13_3
        try clear hfz14_0
        try clear hfz14_1
        try clear hfz14_2
        try clear hfz14_3
        try clear hfz19_0
        try clear hfz19_1
        try clear hfz19_2
        try clear hfz19_3
        try clear hfz20_0
        try clear hfz20_1
        try clear hfz20_2
        try clear hfz20_3
        try clear hfz25_0
        try clear hfz25_1
        try clear hfz25_2
        try clear hfz25_3
        try clear hfz27_0
        try clear hfz27_1
        try clear hfz27_2
        try clear hfz27_3
        obtain ⟨kq, x7_6, HA, HJ6, HO_7, BK181, BK182, BK189, HB⟩ := hcut
        cases kq with
        | zero => exact absurd HA.out (by simp [dragomanref04_Minus.j0])
        | succ kj6 =>
          have H := HA.out
          clear HA
          simp only [dragomanref04_Minus.j0] at H
          have H' := Aside0.mk H
          clear H
          have hnb29 := NB181_182.out
          have hnc29 := NB182_181.out
          have hnb30 := NB181_189.out
          have hnc30 := NB189_181.out
          have hcz31_0 : wc.cell? ⟨gb181, 0, none⟩ = some (.int .u32 a0_0) := (blk_cell BK181.out 0).trans rfl
          have hcz31_1 : wc.cell? ⟨gb181, 1, none⟩ = some (.int .i64 a0_1) := (blk_cell BK181.out 1).trans rfl
          have hcz31_2 : wc.cell? ⟨gb181, 2, none⟩ = some (.int .i64 a0_2) := (blk_cell BK181.out 2).trans rfl
          have hcz31_3 : wc.cell? ⟨gb181, 3, none⟩ = some (.int .i64 a0_3) := (blk_cell BK181.out 3).trans rfl
          have hfz31_0 := blk_frozen BK181.out 0
          have hfz31_1 := blk_frozen BK181.out 1
          have hfz31_2 := blk_frozen BK181.out 2
          have hfz31_3 := blk_frozen BK181.out 3
          go_wp2
          go_loopg [7, 8] kj6 (fun kq v7 v8 w' => ∃ (x7_2 : List (S26)) (x8_2 : Int), v8 = .int .i64 x8_2 ∧ Aside0 (dragomanref04_Minus.l0 kq x7_2 x8_2 a0_0 a0_1 a0_2 a0_3 t184 t185 t186 t187 = some r) ∧ Aside0 (kq ≤ kj6) ∧ Aside0 (Kd.R k26 26 w' w.heap.size (fun k_ => k_ ≠ gb181 ∧ k_ ≠ gb182 ∧ k_ ≠ gb189) v7 x7_2) ∧ Aside0 (w'.heap[gb181]? = some (.cells #[.int .u32 a0_0, .int .i64 a0_1, .int .i64 a0_2, .int .i64 a0_3] 26 (0, 0))) ∧ Aside0 (w'.heap[gb182]? = some (.cells #[.int .u32 a1_0, .int .i64 a1_1, .int .i64 a1_2, .int .i64 a1_3] 26 (0, 0))) ∧ Aside0 (w'.heap[gb189]? = some (.cells #[.int .u32 t184, .int .i64 t185, .int .i64 t186, .int .i64 t187] 26 (0, 0))) ∧ Aside0 (Below w.heap.size w w'))
          case atStart => exact ⟨(x7_6), (wrap64 (a0_1 + 1)), (by first | rfl | (simp; done) | (simp [*]; done)), H', ⟨Nat.le_refl _⟩, ⟨by (with_reducible repeat (first | apply Kd.R_alloc | apply Kd.R_drewN | apply Kd.R_drew)); exact HO_7.out⟩, ⟨by (with_reducible repeat (first | refine blk_drewN ?_ _ | refine blk_drew ?_ | refine blk_alloc ?_ _)); exact BK181.out⟩, ⟨by (with_reducible repeat (first | refine blk_drewN ?_ _ | refine blk_drew ?_ | refine blk_alloc ?_ _)); exact BK182.out⟩, ⟨by (with_reducible repeat (first | refine blk_drewN ?_ _ | refine blk_drew ?_ | refine blk_alloc ?_ _)); exact BK189.out⟩, ⟨by repeat (first | (with_reducible first | exact HB.out | apply below_alloc | apply pw_below_drewN | apply below_drew1 | refine below_set ?_ GE181.out | refine below_set ?_ GE182.out | refine below_set ?_ GE189.out) | exact HB.out)⟩⟩
          case round =>
            clear H'
            try clear c1
            try clear c2
            try clear p2
            try clear c3
            try clear c4
            try clear c6
            try clear p6
            try clear c10
            try clear c12
            try clear c15
            try clear c17
            try clear c18
            try clear c20
            try clear c21
            try clear c21b0
            try clear c22
            try clear c23
            try clear c24
            try clear c26
            try clear c29
            try clear c30
            try clear hcz11_0
            try clear hcz11_1
            try clear hcz11_2
            try clear hcz11_3
            try clear hcz13_0
            try clear hcz13_1
            try clear hcz13_2
            try clear hcz13_3
            try clear hcz14_0
            try clear hcz14_1
            try clear hcz14_2
            try clear hcz14_3
            try clear hcz19_0
            try clear hcz19_1
            try clear hcz19_2
            try clear hcz19_3
            try clear hcz20_0
            try clear hcz20_1
            try clear hcz20_2
            try clear hcz20_3
            try clear hcz25_0
            try clear hcz25_1
            try clear hcz25_2
            try clear hcz25_3
            try clear hcz27_0
            try clear hcz27_1
            try clear hcz27_2
            try clear hcz27_3
            try clear hcz31_0
            try clear hcz31_1
            try clear hcz31_2
            try clear hcz31_3
            try clear hfz11_0
            try clear hfz11_1
            try clear hfz11_2
            try clear hfz11_3
            try clear hfz13_0
            try clear hfz13_1
            try clear hfz13_2
            try clear hfz13_3
            try clear hfz14_0
            try clear hfz14_1
            try clear hfz14_2
            try clear hfz14_3
            try clear hfz19_0
            try clear hfz19_1
            try clear hfz19_2
            try clear hfz19_3
            try clear hfz20_0
            try clear hfz20_1
            try clear hfz20_2
            try clear hfz20_3
            try clear hfz25_0
            try clear hfz25_1
            try clear hfz25_2
            try clear hfz25_3
            try clear hfz27_0
            try clear hfz27_1
            try clear hfz27_2
            try clear hfz27_3
            try clear hfz31_0
            try clear hfz31_1
            try clear hfz31_2
            try clear hfz31_3
            try clear p2
            try clear p6
            obtain ⟨x7_2, x8_2, rfl, HA, HK2, HO_7, BK181, BK182, BK189, HB⟩ := hrel
            cases gk with
            | zero => exact absurd HA.out (by simp [dragomanref04_Minus.l0])
            | succ k2 =>
              have H := HA.out
              clear HA
              simp only [dragomanref04_Minus.l0] at H
              by_cases c32 : x8_2 ≤ t185
              · rw [if_pos c32] at H
                have c32b0 : decide (x8_2 ≤ t185) = true := decide_eq_true c32
                clear c32
                have H' := Aside0.mk H
                clear H
                have hnb33 := NB189_181.out
                have hnc33 := NB181_189.out
                have hnb34 := NB189_182.out
                have hnc34 := NB182_189.out
                have hcz35_0 : wr.cell? ⟨gb189, 0, none⟩ = some (.int .u32 t184) := (blk_cell BK189.out 0).trans rfl
                have hcz35_1 : wr.cell? ⟨gb189, 1, none⟩ = some (.int .i64 t185) := (blk_cell BK189.out 1).trans rfl
                have hcz35_2 : wr.cell? ⟨gb189, 2, none⟩ = some (.int .i64 t186) := (blk_cell BK189.out 2).trans rfl
                have hcz35_3 : wr.cell? ⟨gb189, 3, none⟩ = some (.int .i64 t187) := (blk_cell BK189.out 3).trans rfl
                have hfz35_0 := blk_frozen BK189.out 0
                have hfz35_1 := blk_frozen BK189.out 1
                have hfz35_2 := blk_frozen BK189.out 2
                have hfz35_3 := blk_frozen BK189.out 3
                go_wp2
                go_loopg [9, 10] k2 (fun kq v9 v10 w' => ∃ (x9_3 : Int) (x10_3 : Int), v9 = .int .u32 x9_3 ∧ v10 = .int .i64 x10_3 ∧ Aside0 (dragomanref04_Minus.l1 kq x7_2 x8_2 x9_3 x10_3 a0_0 a0_1 a0_2 a0_3 t184 t185 t186 t187 = some r) ∧ Aside0 (kq ≤ k2) ∧ Aside0 (Kd.R k26 26 w' w.heap.size (fun k_ => k_ ≠ gb181 ∧ k_ ≠ gb182 ∧ k_ ≠ gb189) u7 x7_2) ∧ Aside0 (w'.heap[gb181]? = some (.cells #[.int .u32 a0_0, .int .i64 a0_1, .int .i64 a0_2, .int .i64 a0_3] 26 (0, 0))) ∧ Aside0 (w'.heap[gb182]? = some (.cells #[.int .u32 a1_0, .int .i64 a1_1, .int .i64 a1_2, .int .i64 a1_3] 26 (0, 0))) ∧ Aside0 (w'.heap[gb189]? = some (.cells #[.int .u32 t184, .int .i64 t185, .int .i64 t186, .int .i64 t187] 26 (0, 0))) ∧ Aside0 (Below w.heap.size w w'))
                case atStart => exact ⟨(1), (x8_2), (by first | rfl | (simp; done) | (simp [*]; done)), (by first | rfl | (simp; done) | (simp [*]; done)), H', ⟨Nat.le_refl _⟩, ⟨by (with_reducible repeat (first | apply Kd.R_alloc | apply Kd.R_drewN | apply Kd.R_drew)); exact HO_7.out⟩, ⟨by (with_reducible repeat (first | refine blk_drewN ?_ _ | refine blk_drew ?_ | refine blk_alloc ?_ _)); exact BK181.out⟩, ⟨by (with_reducible repeat (first | refine blk_drewN ?_ _ | refine blk_drew ?_ | refine blk_alloc ?_ _)); exact BK182.out⟩, ⟨by (with_reducible repeat (first | refine blk_drewN ?_ _ | refine blk_drew ?_ | refine blk_alloc ?_ _)); exact BK189.out⟩, ⟨by repeat (first | (with_reducible first | exact HB.out | apply below_alloc | apply pw_below_drewN | apply below_drew1 | refine below_set ?_ GE181.out | refine below_set ?_ GE182.out | refine below_set ?_ GE189.out) | exact HB.out)⟩⟩
                case round =>
                  clear H'
                  try clear c1
                  try clear c2
                  try clear p2
                  try clear c3
                  try clear c4
                  try clear c6
                  try clear p6
                  try clear c10
                  try clear c12
                  try clear c15
                  try clear c17
                  try clear c18
                  try clear c20
                  try clear c21
                  try clear c21b0
                  try clear c22
                  try clear c23
                  try clear c24
                  try clear c26
                  try clear c29
                  try clear c30
                  try clear c32
                  try clear c32b0
                  try clear c33
                  try clear c34
                  try clear hcz11_0
                  try clear hcz11_1
                  try clear hcz11_2
                  try clear hcz11_3
                  try clear hcz13_0
                  try clear hcz13_1
                  try clear hcz13_2
                  try clear hcz13_3
                  try clear hcz14_0
                  try clear hcz14_1
                  try clear hcz14_2
                  try clear hcz14_3
                  try clear hcz19_0
                  try clear hcz19_1
                  try clear hcz19_2
                  try clear hcz19_3
                  try clear hcz20_0
                  try clear hcz20_1
                  try clear hcz20_2
                  try clear hcz20_3
                  try clear hcz25_0
                  try clear hcz25_1
                  try clear hcz25_2
                  try clear hcz25_3
                  try clear hcz27_0
                  try clear hcz27_1
                  try clear hcz27_2
                  try clear hcz27_3
                  try clear hcz31_0
                  try clear hcz31_1
                  try clear hcz31_2
                  try clear hcz31_3
                  try clear hcz35_0
                  try clear hcz35_1
                  try clear hcz35_2
                  try clear hcz35_3
                  try clear hfz11_0
                  try clear hfz11_1
                  try clear hfz11_2
                  try clear hfz11_3
                  try clear hfz13_0
                  try clear hfz13_1
                  try clear hfz13_2
                  try clear hfz13_3
                  try clear hfz14_0
                  try clear hfz14_1
                  try clear hfz14_2
                  try clear hfz14_3
                  try clear hfz19_0
                  try clear hfz19_1
                  try clear hfz19_2
                  try clear hfz19_3
                  try clear hfz20_0
                  try clear hfz20_1
                  try clear hfz20_2
                  try clear hfz20_3
                  try clear hfz25_0
                  try clear hfz25_1
                  try clear hfz25_2
                  try clear hfz25_3
                  try clear hfz27_0
                  try clear hfz27_1
                  try clear hfz27_2
                  try clear hfz27_3
                  try clear hfz31_0
                  try clear hfz31_1
                  try clear hfz31_2
                  try clear hfz31_3
                  try clear hfz35_0
                  try clear hfz35_1
                  try clear hfz35_2
                  try clear hfz35_3
                  try clear p2
                  try clear p6
                  obtain ⟨x9_3, x10_3, rfl, rfl, HA, HK3, HO_7, BK181, BK182, BK189, HB⟩ := hrel
                  cases gk with
                  | zero => exact absurd HA.out (by simp [dragomanref04_Minus.l1])
                  | succ k3 =>
                    have H := HA.out
                    clear HA
                    simp only [dragomanref04_Minus.l1] at H
                    by_cases c36 : x10_3 < 32
                    · rw [if_pos c36] at H
                      have c36b0 : decide (x10_3 < 32) = true := decide_eq_true c36
                      clear c36
                      have H' := Aside0.mk H
                      clear H
                      go_wp2
                      go_roundg k3
                      case measure => have := HJ6.out; have := HK2.out; have := HK3.out; omega
                      case rel => exact ⟨((2 * x9_3) % 4294967296), (wrap64 (x10_3 + 1)), (by first | rfl | (simp; done) | (simp [*]; done)), (by first | rfl | (simp; done) | (simp [*]; done)), H', ⟨by have := HJ6.out; have := HK2.out; have := HK3.out; omega⟩, ⟨by (with_reducible repeat (first | apply Kd.R_alloc | apply Kd.R_drewN | apply Kd.R_drew)); exact HO_7.out⟩, ⟨by (with_reducible repeat (first | refine blk_drewN ?_ _ | refine blk_drew ?_ | refine blk_alloc ?_ _)); exact BK181.out⟩, ⟨by (with_reducible repeat (first | refine blk_drewN ?_ _ | refine blk_drew ?_ | refine blk_alloc ?_ _)); exact BK182.out⟩, ⟨by (with_reducible repeat (first | refine blk_drewN ?_ _ | refine blk_drew ?_ | refine blk_alloc ?_ _)); exact BK189.out⟩, ⟨by repeat (first | (with_reducible first | exact HB.out | apply below_alloc | apply pw_below_drewN | apply below_drew1 | refine below_set ?_ GE181.out | refine below_set ?_ GE182.out | refine below_set ?_ GE189.out) | exact HB.out)⟩⟩
                    · rw [if_neg c36] at H
                      have c36b0 : decide (x10_3 < 32) = false := decide_eq_false c36
                      clear c36
                      replace H := Option.bind_eq_some_iff.mp H
                      obtain ⟨t199, A370, H⟩ := H
                      replace H : (if x9_3 = 0 then (none) else (if (((Int.tdiv t199 x9_3) % 4294967296) % 2) = 1 then (if x7_2.length < 4398046511104 then (dragomanref04_Minus.l0 k3 (x7_2 ++ [(⟨(⟨(t199 - x9_3) % 4294967296, x8_2⟩ : S24), t186, t187⟩ : S26)]) (wrap64 (x8_2 + 1)) a0_0 a0_1 a0_2 a0_3 t184 t185 t186 t187) else (none)) else (if x7_2.length < 4398046511104 then (dragomanref04_Minus.l0 k3 (x7_2 ++ [(⟨(⟨(t199 + x9_3) % 4294967296, x8_2⟩ : S24), t186, t187⟩ : S26)]) (wrap64 (x8_2 + 1)) a0_0 a0_1 a0_2 a0_3 t184 t185 t186 t187) else (none)))) = some r := H
                      have A37 := Aside0.mk A370
                      clear A370
                      by_cases c38 : x9_3 = 0
                      · rw [if_pos c38] at H
                        exact absurd H (by simp)
                      · rw [if_neg c38] at H
                        have c38b0 : (x9_3 == 0) = false := beq_eq_false_iff_ne.mpr c38
                        have c38b1 : (x9_3 != 0) = true := bne_iff_ne.mpr c38
                        by_cases c39 : (((Int.tdiv t199 x9_3) % 4294967296) % 2) = 1
                        · rw [if_pos c39] at H
                          have c39b0 : ((((Int.tdiv t199 x9_3) % 4294967296) % 2) == 1) = true := beq_iff_eq.mpr c39
                          have c39b1 : ((((Int.tdiv t199 x9_3) % 4294967296) % 2) != 1) = false := bne_eq_false_iff_eq.mpr c39
                          clear c39
                          by_cases c40 : x7_2.length < 4398046511104
                          · rw [if_pos c40] at H
                            have LMc40 := Aside0.mk c40
                            clear c40
                            obtain ⟨y200, hy200⟩ : ∃ y_ : List (S26), y_ = (x7_2 ++ [(⟨(⟨(t199 - x9_3) % 4294967296, x8_2⟩ : S24), t186, t187⟩ : S26)]) := ⟨_, rfl⟩
                            replace H : (dragomanref04_Minus.l0 k3 y200 (wrap64 (x8_2 + 1)) a0_0 a0_1 a0_2 a0_3 t184 t185 t186 t187) = some r := by first | (rw [hy200]; with_reducible exact H) | (have H2_ := (Option.bind_some _ _).symm.trans H; rw [hy200]; with_reducible exact H2_) | (have H2_ := (Option.bind_some _ _).symm.trans H; with_reducible exact H2_) | with_reducible exact H | (rw [hy200]; exact H) | exact H
                            have Ny200 := Aside0.mk hy200
                            clear hy200
                            have H' := Aside0.mk H
                            clear H
                            have hnb41 := NB189_181.out
                            have hnc41 := NB181_189.out
                            have hnb42 := NB189_182.out
                            have hnc42 := NB182_189.out
                            have hcz43_0 : wr.cell? ⟨gb189, 0, none⟩ = some (.int .u32 t184) := (blk_cell BK189.out 0).trans rfl
                            have hcz43_1 : wr.cell? ⟨gb189, 1, none⟩ = some (.int .i64 t185) := (blk_cell BK189.out 1).trans rfl
                            have hcz43_2 : wr.cell? ⟨gb189, 2, none⟩ = some (.int .i64 t186) := (blk_cell BK189.out 2).trans rfl
                            have hcz43_3 : wr.cell? ⟨gb189, 3, none⟩ = some (.int .i64 t187) := (blk_cell BK189.out 3).trans rfl
                            have hfz43_0 := blk_frozen BK189.out 0
                            have hfz43_1 := blk_frozen BK189.out 1
                            have hfz43_2 := blk_frozen BK189.out 2
                            have hfz43_3 := blk_frozen BK189.out 3
                            go_wp2_with (first | ((with_reducible refine gate_callee (f := 29) rfl ?_); refine goesL_ (some 63) rfl rfl Try.func29 (by kernel_rfl) rfl #[.int .u32 t184, .int .i64 x8_2] rfl (by (try simp only [List.map_toArray, List.map_cons, List.map_nil]); first | done | rfl | (simp only [List.length_drop, List.length_take]; rfl)) ?_; (with_reducible refine (dragomanref04_cut.calls k3 t184 x8_2 t199 _ A37.out).mono ?_); rintro e w44 ⟨rfl, hb⟩; refine ⟨_, rfl, ?_⟩; have n0_ := Aside0.mk (Kd.R_below (by (with_reducible repeat (first | apply Kd.R_alloc | apply Kd.R_drewN | apply Kd.R_drew)); exact HO_7.out) hb); have n1_ := Aside0.mk (blk_below (g := gb181) (o := .cells #[.int .u32 a0_0, .int .i64 a0_1, .int .i64 a0_2, .int .i64 a0_3] 26 (0, 0)) (by (with_reducible repeat (first | refine blk_drewN ?_ _ | refine blk_drew ?_ | refine blk_alloc ?_ _)); exact BK181.out) hb); have n2_ := Aside0.mk (blk_below (g := gb182) (o := .cells #[.int .u32 a1_0, .int .i64 a1_1, .int .i64 a1_2, .int .i64 a1_3] 26 (0, 0)) (by (with_reducible repeat (first | refine blk_drewN ?_ _ | refine blk_drew ?_ | refine blk_alloc ?_ _)); exact BK182.out) hb); have n3_ := Aside0.mk (blk_below (g := gb189) (o := .cells #[.int .u32 t184, .int .i64 t185, .int .i64 t186, .int .i64 t187] 26 (0, 0)) (by (with_reducible repeat (first | refine blk_drewN ?_ _ | refine blk_drew ?_ | refine blk_alloc ?_ _)); exact BK189.out) hb); have n4_ := Aside0.mk (below_step (by repeat (first | (with_reducible first | exact HB.out | apply below_alloc | apply pw_below_drewN | apply below_drew1 | refine below_set ?_ GE181.out | refine below_set ?_ GE182.out | refine below_set ?_ GE189.out) | exact HB.out)) hb); clear HO_7; clear BK181; clear BK182; clear BK189; clear HB; have HO_7 := n0_; have BK181 := n1_; have BK182 := n2_; have BK189 := n3_; have HB := n4_; clear n0_ n1_ n2_ n3_ n4_; (try clear hb); (try clear hb2); (try clear hk); (try clear hi); have hcz45_0 : w44.cell? ⟨gb189, 0, none⟩ = some (.int .u32 t184) := (blk_cell BK189.out 0).trans rfl; have hcz45_1 : w44.cell? ⟨gb189, 1, none⟩ = some (.int .i64 t185) := (blk_cell BK189.out 1).trans rfl; have hcz45_2 : w44.cell? ⟨gb189, 2, none⟩ = some (.int .i64 t186) := (blk_cell BK189.out 2).trans rfl; have hcz45_3 : w44.cell? ⟨gb189, 3, none⟩ = some (.int .i64 t187) := (blk_cell BK189.out 3).trans rfl; have hfz45_0 := blk_frozen BK189.out 0; have hfz45_1 := blk_frozen BK189.out 1; have hfz45_2 := blk_frozen BK189.out 2; have hfz45_3 := blk_frozen BK189.out 3) | ((with_reducible refine gate_builtin (b := .append) (xs := #[.tmp 75, .tmp 84]) rfl ?_); at_builtin; refine Kd.R_append k26 (w0 := w) w.heap.size rfl (.tmp 75) (.tmp 84) 31 26 (.agg #[(.int .u32 0), (.int .i64 0), (.int .i64 0), (.int .i64 0)]) 32 rfl Try.underlying31 info26 rfl (by decide) (by omega) u7 x7_2 (⟨(⟨(t199 - x9_3) % 4294967296, x8_2⟩ : S24), t186, t187⟩ : S26) [.int .u32 ((t199 - x9_3) % 4294967296), .int .i64 x8_2, .int .i64 t186, .int .i64 t187] (fun k_ => k_ ≠ gb181 ∧ k_ ≠ gb182 ∧ k_ ≠ gb189) (fun _ => False) rfl rfl ?aP (fun _ hk => hk.elim) ?aF ?aO ?aB ?aS ?aL ?_; (case aP => exact k26_mkM _ _ _ (⟨(⟨(t199 - x9_3) % 4294967296, x8_2⟩ : S24), t186, t187⟩ : S26)); (case aB => exact (by repeat (first | (with_reducible first | exact HB.out | apply below_alloc | apply pw_below_drewN | apply below_drew1 | refine below_set ?_ GE181.out | refine below_set ?_ GE182.out | refine below_set ?_ GE189.out) | exact HB.out))); (case aF => exact (fun k_ hk => ⟨Kd.freshB (g := gb181) (o := .cells #[.int .u32 a0_0, .int .i64 a0_1, .int .i64 a0_2, .int .i64 a0_3] 26 (0, 0)) (by (with_reducible repeat (first | refine blk_drewN ?_ _ | refine blk_drew ?_ | refine blk_alloc ?_ _)); exact BK181.out) k_ hk, Kd.freshB (g := gb182) (o := .cells #[.int .u32 a1_0, .int .i64 a1_1, .int .i64 a1_2, .int .i64 a1_3] 26 (0, 0)) (by (with_reducible repeat (first | refine blk_drewN ?_ _ | refine blk_drew ?_ | refine blk_alloc ?_ _)); exact BK182.out) k_ hk, Kd.freshB (g := gb189) (o := .cells #[.int .u32 t184, .int .i64 t185, .int .i64 t186, .int .i64 t187] 26 (0, 0)) (by (with_reducible repeat (first | refine blk_drewN ?_ _ | refine blk_drew ?_ | refine blk_alloc ?_ _)); exact BK189.out) k_ hk⟩)); (case aO => exact (by (with_reducible repeat (first | apply Kd.R_alloc | apply Kd.R_drewN | apply Kd.R_drew)); exact HO_7.out)); (case aS => exact (below_size (by repeat (first | (with_reducible first | exact HB.out | apply below_alloc | apply pw_below_drewN | apply below_drew1 | refine below_set ?_ GE181.out | refine below_set ?_ GE182.out | refine below_set ?_ GE189.out) | exact HB.out)))); (case aL => have := LMc40.out; omega); intro v201 w46 ho hb hg hat; rw [← Ny200.out] at ho; have n0_ := Aside0.mk (blk_grown (g := gb181) (o := .cells #[.int .u32 a0_0, .int .i64 a0_1, .int .i64 a0_2, .int .i64 a0_3] 26 (0, 0)) (by (with_reducible repeat (first | refine blk_drewN ?_ _ | refine blk_drew ?_ | refine blk_alloc ?_ _)); exact BK181.out) hg (Kd.R_away HO_7.out (fun _ hk => hk.1))); have n1_ := Aside0.mk (blk_grown (g := gb182) (o := .cells #[.int .u32 a1_0, .int .i64 a1_1, .int .i64 a1_2, .int .i64 a1_3] 26 (0, 0)) (by (with_reducible repeat (first | refine blk_drewN ?_ _ | refine blk_drew ?_ | refine blk_alloc ?_ _)); exact BK182.out) hg (Kd.R_away HO_7.out (fun _ hk => hk.2.1))); have n2_ := Aside0.mk (blk_grown (g := gb189) (o := .cells #[.int .u32 t184, .int .i64 t185, .int .i64 t186, .int .i64 t187] 26 (0, 0)) (by (with_reducible repeat (first | refine blk_drewN ?_ _ | refine blk_drew ?_ | refine blk_alloc ?_ _)); exact BK189.out) hg (Kd.R_away HO_7.out (fun _ hk => hk.2.2))); have n3_ := Aside0.mk (hb); have n4_ := Aside0.mk (ho); clear BK181; clear BK182; clear BK189; clear HB; clear HO_7; have BK181 := n0_; have BK182 := n1_; have BK189 := n2_; have HB := n3_; have HO202 := n4_; clear n0_ n1_ n2_ n3_ n4_; clear ho hb hg hat))
                            go_roundg k3
                            case measure => have := HJ6.out; have := HK2.out; have := HK3.out; omega
                            case rel => exact ⟨(y200), (wrap64 (x8_2 + 1)), (by first | rfl | (simp; done) | (simp [*]; done)), H', ⟨by have := HJ6.out; have := HK2.out; have := HK3.out; omega⟩, ⟨by (with_reducible repeat (first | apply Kd.R_alloc | apply Kd.R_drewN | apply Kd.R_drew)); exact HO202.out⟩, ⟨by (with_reducible repeat (first | refine blk_drewN ?_ _ | refine blk_drew ?_ | refine blk_alloc ?_ _)); exact BK181.out⟩, ⟨by (with_reducible repeat (first | refine blk_drewN ?_ _ | refine blk_drew ?_ | refine blk_alloc ?_ _)); exact BK182.out⟩, ⟨by (with_reducible repeat (first | refine blk_drewN ?_ _ | refine blk_drew ?_ | refine blk_alloc ?_ _)); exact BK189.out⟩, ⟨by repeat (first | (with_reducible first | exact HB.out | apply below_alloc | apply pw_below_drewN | apply below_drew1 | refine below_set ?_ GE181.out | refine below_set ?_ GE182.out | refine below_set ?_ GE189.out) | exact HB.out)⟩⟩
                          · rw [if_neg c40] at H
                            exact absurd H (by simp)
                        · rw [if_neg c39] at H
                          have c39b0 : ((((Int.tdiv t199 x9_3) % 4294967296) % 2) == 1) = false := beq_eq_false_iff_ne.mpr c39
                          have c39b1 : ((((Int.tdiv t199 x9_3) % 4294967296) % 2) != 1) = true := bne_iff_ne.mpr c39
                          by_cases c47 : x7_2.length < 4398046511104
                          · rw [if_pos c47] at H
                            have LMc47 := Aside0.mk c47
                            clear c47
                            obtain ⟨y203, hy203⟩ : ∃ y_ : List (S26), y_ = (x7_2 ++ [(⟨(⟨(t199 + x9_3) % 4294967296, x8_2⟩ : S24), t186, t187⟩ : S26)]) := ⟨_, rfl⟩
                            replace H : (dragomanref04_Minus.l0 k3 y203 (wrap64 (x8_2 + 1)) a0_0 a0_1 a0_2 a0_3 t184 t185 t186 t187) = some r := by first | (rw [hy203]; with_reducible exact H) | (have H2_ := (Option.bind_some _ _).symm.trans H; rw [hy203]; with_reducible exact H2_) | (have H2_ := (Option.bind_some _ _).symm.trans H; with_reducible exact H2_) | with_reducible exact H | (rw [hy203]; exact H) | exact H
                            have Ny203 := Aside0.mk hy203
                            clear hy203
                            have H' := Aside0.mk H
                            clear H
                            have hnb48 := NB189_181.out
                            have hnc48 := NB181_189.out
                            have hnb49 := NB189_182.out
                            have hnc49 := NB182_189.out
                            have hcz50_0 : wr.cell? ⟨gb189, 0, none⟩ = some (.int .u32 t184) := (blk_cell BK189.out 0).trans rfl
                            have hcz50_1 : wr.cell? ⟨gb189, 1, none⟩ = some (.int .i64 t185) := (blk_cell BK189.out 1).trans rfl
                            have hcz50_2 : wr.cell? ⟨gb189, 2, none⟩ = some (.int .i64 t186) := (blk_cell BK189.out 2).trans rfl
                            have hcz50_3 : wr.cell? ⟨gb189, 3, none⟩ = some (.int .i64 t187) := (blk_cell BK189.out 3).trans rfl
                            have hfz50_0 := blk_frozen BK189.out 0
                            have hfz50_1 := blk_frozen BK189.out 1
                            have hfz50_2 := blk_frozen BK189.out 2
                            have hfz50_3 := blk_frozen BK189.out 3
                            go_wp2_with (first | ((with_reducible refine gate_callee (f := 29) rfl ?_); refine goesL_ (some 63) rfl rfl Try.func29 (by kernel_rfl) rfl #[.int .u32 t184, .int .i64 x8_2] rfl (by (try simp only [List.map_toArray, List.map_cons, List.map_nil]); first | done | rfl | (simp only [List.length_drop, List.length_take]; rfl)) ?_; (with_reducible refine (dragomanref04_cut.calls k3 t184 x8_2 t199 _ A37.out).mono ?_); rintro e w51 ⟨rfl, hb⟩; refine ⟨_, rfl, ?_⟩; have n0_ := Aside0.mk (Kd.R_below (by (with_reducible repeat (first | apply Kd.R_alloc | apply Kd.R_drewN | apply Kd.R_drew)); exact HO_7.out) hb); have n1_ := Aside0.mk (blk_below (g := gb181) (o := .cells #[.int .u32 a0_0, .int .i64 a0_1, .int .i64 a0_2, .int .i64 a0_3] 26 (0, 0)) (by (with_reducible repeat (first | refine blk_drewN ?_ _ | refine blk_drew ?_ | refine blk_alloc ?_ _)); exact BK181.out) hb); have n2_ := Aside0.mk (blk_below (g := gb182) (o := .cells #[.int .u32 a1_0, .int .i64 a1_1, .int .i64 a1_2, .int .i64 a1_3] 26 (0, 0)) (by (with_reducible repeat (first | refine blk_drewN ?_ _ | refine blk_drew ?_ | refine blk_alloc ?_ _)); exact BK182.out) hb); have n3_ := Aside0.mk (blk_below (g := gb189) (o := .cells #[.int .u32 t184, .int .i64 t185, .int .i64 t186, .int .i64 t187] 26 (0, 0)) (by (with_reducible repeat (first | refine blk_drewN ?_ _ | refine blk_drew ?_ | refine blk_alloc ?_ _)); exact BK189.out) hb); have n4_ := Aside0.mk (below_step (by repeat (first | (with_reducible first | exact HB.out | apply below_alloc | apply pw_below_drewN | apply below_drew1 | refine below_set ?_ GE181.out | refine below_set ?_ GE182.out | refine below_set ?_ GE189.out) | exact HB.out)) hb); clear HO_7; clear BK181; clear BK182; clear BK189; clear HB; have HO_7 := n0_; have BK181 := n1_; have BK182 := n2_; have BK189 := n3_; have HB := n4_; clear n0_ n1_ n2_ n3_ n4_; (try clear hb); (try clear hb2); (try clear hk); (try clear hi); have hcz52_0 : w51.cell? ⟨gb189, 0, none⟩ = some (.int .u32 t184) := (blk_cell BK189.out 0).trans rfl; have hcz52_1 : w51.cell? ⟨gb189, 1, none⟩ = some (.int .i64 t185) := (blk_cell BK189.out 1).trans rfl; have hcz52_2 : w51.cell? ⟨gb189, 2, none⟩ = some (.int .i64 t186) := (blk_cell BK189.out 2).trans rfl; have hcz52_3 : w51.cell? ⟨gb189, 3, none⟩ = some (.int .i64 t187) := (blk_cell BK189.out 3).trans rfl; have hfz52_0 := blk_frozen BK189.out 0; have hfz52_1 := blk_frozen BK189.out 1; have hfz52_2 := blk_frozen BK189.out 2; have hfz52_3 := blk_frozen BK189.out 3) | ((with_reducible refine gate_builtin (b := .append) (xs := #[.tmp 75, .tmp 84]) rfl ?_); at_builtin; refine Kd.R_append k26 (w0 := w) w.heap.size rfl (.tmp 75) (.tmp 84) 31 26 (.agg #[(.int .u32 0), (.int .i64 0), (.int .i64 0), (.int .i64 0)]) 32 rfl Try.underlying31 info26 rfl (by decide) (by omega) u7 x7_2 (⟨(⟨(t199 + x9_3) % 4294967296, x8_2⟩ : S24), t186, t187⟩ : S26) [.int .u32 ((t199 + x9_3) % 4294967296), .int .i64 x8_2, .int .i64 t186, .int .i64 t187] (fun k_ => k_ ≠ gb181 ∧ k_ ≠ gb182 ∧ k_ ≠ gb189) (fun _ => False) rfl rfl ?aP (fun _ hk => hk.elim) ?aF ?aO ?aB ?aS ?aL ?_; (case aP => exact k26_mkM _ _ _ (⟨(⟨(t199 + x9_3) % 4294967296, x8_2⟩ : S24), t186, t187⟩ : S26)); (case aB => exact (by repeat (first | (with_reducible first | exact HB.out | apply below_alloc | apply pw_below_drewN | apply below_drew1 | refine below_set ?_ GE181.out | refine below_set ?_ GE182.out | refine below_set ?_ GE189.out) | exact HB.out))); (case aF => exact (fun k_ hk => ⟨Kd.freshB (g := gb181) (o := .cells #[.int .u32 a0_0, .int .i64 a0_1, .int .i64 a0_2, .int .i64 a0_3] 26 (0, 0)) (by (with_reducible repeat (first | refine blk_drewN ?_ _ | refine blk_drew ?_ | refine blk_alloc ?_ _)); exact BK181.out) k_ hk, Kd.freshB (g := gb182) (o := .cells #[.int .u32 a1_0, .int .i64 a1_1, .int .i64 a1_2, .int .i64 a1_3] 26 (0, 0)) (by (with_reducible repeat (first | refine blk_drewN ?_ _ | refine blk_drew ?_ | refine blk_alloc ?_ _)); exact BK182.out) k_ hk, Kd.freshB (g := gb189) (o := .cells #[.int .u32 t184, .int .i64 t185, .int .i64 t186, .int .i64 t187] 26 (0, 0)) (by (with_reducible repeat (first | refine blk_drewN ?_ _ | refine blk_drew ?_ | refine blk_alloc ?_ _)); exact BK189.out) k_ hk⟩)); (case aO => exact (by (with_reducible repeat (first | apply Kd.R_alloc | apply Kd.R_drewN | apply Kd.R_drew)); exact HO_7.out)); (case aS => exact (below_size (by repeat (first | (with_reducible first | exact HB.out | apply below_alloc | apply pw_below_drewN | apply below_drew1 | refine below_set ?_ GE181.out | refine below_set ?_ GE182.out | refine below_set ?_ GE189.out) | exact HB.out)))); (case aL => have := LMc47.out; omega); intro v204 w53 ho hb hg hat; rw [← Ny203.out] at ho; have n0_ := Aside0.mk (blk_grown (g := gb181) (o := .cells #[.int .u32 a0_0, .int .i64 a0_1, .int .i64 a0_2, .int .i64 a0_3] 26 (0, 0)) (by (with_reducible repeat (first | refine blk_drewN ?_ _ | refine blk_drew ?_ | refine blk_alloc ?_ _)); exact BK181.out) hg (Kd.R_away HO_7.out (fun _ hk => hk.1))); have n1_ := Aside0.mk (blk_grown (g := gb182) (o := .cells #[.int .u32 a1_0, .int .i64 a1_1, .int .i64 a1_2, .int .i64 a1_3] 26 (0, 0)) (by (with_reducible repeat (first | refine blk_drewN ?_ _ | refine blk_drew ?_ | refine blk_alloc ?_ _)); exact BK182.out) hg (Kd.R_away HO_7.out (fun _ hk => hk.2.1))); have n2_ := Aside0.mk (blk_grown (g := gb189) (o := .cells #[.int .u32 t184, .int .i64 t185, .int .i64 t186, .int .i64 t187] 26 (0, 0)) (by (with_reducible repeat (first | refine blk_drewN ?_ _ | refine blk_drew ?_ | refine blk_alloc ?_ _)); exact BK189.out) hg (Kd.R_away HO_7.out (fun _ hk => hk.2.2))); have n3_ := Aside0.mk (hb); have n4_ := Aside0.mk (ho); clear BK181; clear BK182; clear BK189; clear HB; clear HO_7; have BK181 := n0_; have BK182 := n1_; have BK189 := n2_; have HB := n3_; have HO205 := n4_; clear n0_ n1_ n2_ n3_ n4_; clear ho hb hg hat))
                            go_roundg k3
                            case measure => have := HJ6.out; have := HK2.out; have := HK3.out; omega
                            case rel => exact ⟨(y203), (wrap64 (x8_2 + 1)), (by first | rfl | (simp; done) | (simp [*]; done)), H', ⟨by have := HJ6.out; have := HK2.out; have := HK3.out; omega⟩, ⟨by (with_reducible repeat (first | apply Kd.R_alloc | apply Kd.R_drewN | apply Kd.R_drew)); exact HO205.out⟩, ⟨by (with_reducible repeat (first | refine blk_drewN ?_ _ | refine blk_drew ?_ | refine blk_alloc ?_ _)); exact BK181.out⟩, ⟨by (with_reducible repeat (first | refine blk_drewN ?_ _ | refine blk_drew ?_ | refine blk_alloc ?_ _)); exact BK182.out⟩, ⟨by (with_reducible repeat (first | refine blk_drewN ?_ _ | refine blk_drew ?_ | refine blk_alloc ?_ _)); exact BK189.out⟩, ⟨by repeat (first | (with_reducible first | exact HB.out | apply below_alloc | apply pw_below_drewN | apply below_drew1 | refine below_set ?_ GE181.out | refine below_set ?_ GE182.out | refine below_set ?_ GE189.out) | exact HB.out)⟩⟩
                          · rw [if_neg c47] at H
                            exact absurd H (by simp)
              · rw [if_neg c32] at H
                have c32b0 : decide (x8_2 ≤ t185) = false := decide_eq_false c32
                clear c32
                by_cases c54 : t187 < a0_3
                · rw [if_pos c54] at H
                  have c54b0 : decide (t187 < a0_3) = true := decide_eq_true c54
                  clear c54
                  by_cases c55 : x7_2.length < 4398046511104
                  · rw [if_pos c55] at H
                    have LMc55 := Aside0.mk c55
                    clear c55
                    obtain ⟨y196, hy196⟩ : ∃ y_ : List (S26), y_ = (x7_2 ++ [(⟨(⟨a0_0, a0_1⟩ : S24), wrap64 (t187 + 1), a0_3⟩ : S26)]) := ⟨_, rfl⟩
                    replace H : (some y196) = some r := by first | (rw [hy196]; with_reducible exact H) | (have H2_ := (Option.bind_some _ _).symm.trans H; rw [hy196]; with_reducible exact H2_) | (have H2_ := (Option.bind_some _ _).symm.trans H; with_reducible exact H2_) | with_reducible exact H | (rw [hy196]; exact H) | exact H
                    have Ny196 := Aside0.mk hy196
                    clear hy196
                    obtain rfl := Option.some.inj H
                    have hnb56 := NB189_181.out
                    have hnc56 := NB181_189.out
                    have hnb57 := NB189_182.out
                    have hnc57 := NB182_189.out
                    have hcz58_0 : wr.cell? ⟨gb189, 0, none⟩ = some (.int .u32 t184) := (blk_cell BK189.out 0).trans rfl
                    have hcz58_1 : wr.cell? ⟨gb189, 1, none⟩ = some (.int .i64 t185) := (blk_cell BK189.out 1).trans rfl
                    have hcz58_2 : wr.cell? ⟨gb189, 2, none⟩ = some (.int .i64 t186) := (blk_cell BK189.out 2).trans rfl
                    have hcz58_3 : wr.cell? ⟨gb189, 3, none⟩ = some (.int .i64 t187) := (blk_cell BK189.out 3).trans rfl
                    have hfz58_0 := blk_frozen BK189.out 0
                    have hfz58_1 := blk_frozen BK189.out 1
                    have hfz58_2 := blk_frozen BK189.out 2
                    have hfz58_3 := blk_frozen BK189.out 3
                    have hnb59 := NB181_182.out
                    have hnc59 := NB182_181.out
                    have hcz60_0 : wr.cell? ⟨gb181, 0, none⟩ = some (.int .u32 a0_0) := (blk_cell BK181.out 0).trans rfl
                    have hcz60_1 : wr.cell? ⟨gb181, 1, none⟩ = some (.int .i64 a0_1) := (blk_cell BK181.out 1).trans rfl
                    have hcz60_2 : wr.cell? ⟨gb181, 2, none⟩ = some (.int .i64 a0_2) := (blk_cell BK181.out 2).trans rfl
                    have hcz60_3 : wr.cell? ⟨gb181, 3, none⟩ = some (.int .i64 a0_3) := (blk_cell BK181.out 3).trans rfl
                    have hfz60_0 := blk_frozen BK181.out 0
                    have hfz60_1 := blk_frozen BK181.out 1
                    have hfz60_2 := blk_frozen BK181.out 2
                    have hfz60_3 := blk_frozen BK181.out 3
                    go_wp2_with (first | ((with_reducible refine gate_builtin (b := .append) (xs := #[.tmp 91, .tmp 100]) rfl ?_); at_builtin; refine Kd.R_append k26 (w0 := w) w.heap.size rfl (.tmp 91) (.tmp 100) 31 26 (.agg #[(.int .u32 0), (.int .i64 0), (.int .i64 0), (.int .i64 0)]) 32 rfl Try.underlying31 info26 rfl (by decide) (by omega) u7 x7_2 (⟨(⟨a0_0, a0_1⟩ : S24), wrap64 (t187 + 1), a0_3⟩ : S26) [.int .u32 a0_0, .int .i64 a0_1, .int .i64 (wrap64 (t187 + 1)), .int .i64 a0_3] (fun k_ => k_ ≠ gb181 ∧ k_ ≠ gb182 ∧ k_ ≠ gb189) (fun _ => False) rfl rfl ?aP (fun _ hk => hk.elim) ?aF ?aO ?aB ?aS ?aL ?_; (case aP => exact k26_mkM _ _ _ (⟨(⟨a0_0, a0_1⟩ : S24), wrap64 (t187 + 1), a0_3⟩ : S26)); (case aB => exact (by repeat (first | (with_reducible first | exact HB.out | apply below_alloc | apply pw_below_drewN | apply below_drew1 | refine below_set ?_ GE181.out | refine below_set ?_ GE182.out | refine below_set ?_ GE189.out) | exact HB.out))); (case aF => exact (fun k_ hk => ⟨Kd.freshB (g := gb181) (o := .cells #[.int .u32 a0_0, .int .i64 a0_1, .int .i64 a0_2, .int .i64 a0_3] 26 (0, 0)) (by (with_reducible repeat (first | refine blk_drewN ?_ _ | refine blk_drew ?_ | refine blk_alloc ?_ _)); exact BK181.out) k_ hk, Kd.freshB (g := gb182) (o := .cells #[.int .u32 a1_0, .int .i64 a1_1, .int .i64 a1_2, .int .i64 a1_3] 26 (0, 0)) (by (with_reducible repeat (first | refine blk_drewN ?_ _ | refine blk_drew ?_ | refine blk_alloc ?_ _)); exact BK182.out) k_ hk, Kd.freshB (g := gb189) (o := .cells #[.int .u32 t184, .int .i64 t185, .int .i64 t186, .int .i64 t187] 26 (0, 0)) (by (with_reducible repeat (first | refine blk_drewN ?_ _ | refine blk_drew ?_ | refine blk_alloc ?_ _)); exact BK189.out) k_ hk⟩)); (case aO => exact (by (with_reducible repeat (first | apply Kd.R_alloc | apply Kd.R_drewN | apply Kd.R_drew)); exact HO_7.out)); (case aS => exact (below_size (by repeat (first | (with_reducible first | exact HB.out | apply below_alloc | apply pw_below_drewN | apply below_drew1 | refine below_set ?_ GE181.out | refine below_set ?_ GE182.out | refine below_set ?_ GE189.out) | exact HB.out)))); (case aL => have := LMc55.out; omega); intro v197 w61 ho hb hg hat; rw [← Ny196.out] at ho; have n0_ := Aside0.mk (blk_grown (g := gb181) (o := .cells #[.int .u32 a0_0, .int .i64 a0_1, .int .i64 a0_2, .int .i64 a0_3] 26 (0, 0)) (by (with_reducible repeat (first | refine blk_drewN ?_ _ | refine blk_drew ?_ | refine blk_alloc ?_ _)); exact BK181.out) hg (Kd.R_away HO_7.out (fun _ hk => hk.1))); have n1_ := Aside0.mk (blk_grown (g := gb182) (o := .cells #[.int .u32 a1_0, .int .i64 a1_1, .int .i64 a1_2, .int .i64 a1_3] 26 (0, 0)) (by (with_reducible repeat (first | refine blk_drewN ?_ _ | refine blk_drew ?_ | refine blk_alloc ?_ _)); exact BK182.out) hg (Kd.R_away HO_7.out (fun _ hk => hk.2.1))); have n2_ := Aside0.mk (blk_grown (g := gb189) (o := .cells #[.int .u32 t184, .int .i64 t185, .int .i64 t186, .int .i64 t187] 26 (0, 0)) (by (with_reducible repeat (first | refine blk_drewN ?_ _ | refine blk_drew ?_ | refine blk_alloc ?_ _)); exact BK189.out) hg (Kd.R_away HO_7.out (fun _ hk => hk.2.2))); have n3_ := Aside0.mk (hb); have n4_ := Aside0.mk (ho); clear BK181; clear BK182; clear BK189; clear HB; clear HO_7; have BK181 := n0_; have BK182 := n1_; have BK189 := n2_; have HB := n3_; have HO198 := n4_; clear n0_ n1_ n2_ n3_ n4_; clear ho hb hg hat))
                    go_ret
                    exact ⟨_, by first | rfl | (simp [errW_none, errW_some] <;> rfl) | (simp [*, errW_none, errW_some] <;> rfl), by (with_reducible repeat (first | apply Kd.R_alloc | apply Kd.R_drewN | apply Kd.R_drew)); exact Kd.R_mono HO198.out (fun _ hk => trivial), by repeat (first | (with_reducible first | exact HB.out | apply below_alloc | apply pw_below_drewN | apply below_drew1 | refine below_set ?_ GE181.out | refine below_set ?_ GE182.out | refine below_set ?_ GE189.out) | exact HB.out)⟩
                  · rw [if_neg c55] at H
                    exact absurd H (by simp)
                · rw [if_neg c54] at H
                  have c54b0 : decide (t187 < a0_3) = false := decide_eq_false c54
                  clear c54
                  obtain rfl := Option.some.inj H
                  have hnb62 := NB189_181.out
                  have hnc62 := NB181_189.out
                  have hnb63 := NB189_182.out
                  have hnc63 := NB182_189.out
                  have hcz64_0 : wr.cell? ⟨gb189, 0, none⟩ = some (.int .u32 t184) := (blk_cell BK189.out 0).trans rfl
                  have hcz64_1 : wr.cell? ⟨gb189, 1, none⟩ = some (.int .i64 t185) := (blk_cell BK189.out 1).trans rfl
                  have hcz64_2 : wr.cell? ⟨gb189, 2, none⟩ = some (.int .i64 t186) := (blk_cell BK189.out 2).trans rfl
                  have hcz64_3 : wr.cell? ⟨gb189, 3, none⟩ = some (.int .i64 t187) := (blk_cell BK189.out 3).trans rfl
                  have hfz64_0 := blk_frozen BK189.out 0
                  have hfz64_1 := blk_frozen BK189.out 1
                  have hfz64_2 := blk_frozen BK189.out 2
                  have hfz64_3 := blk_frozen BK189.out 3
                  have hnb65 := NB181_182.out
                  have hnc65 := NB182_181.out
                  have hcz66_0 : wr.cell? ⟨gb181, 0, none⟩ = some (.int .u32 a0_0) := (blk_cell BK181.out 0).trans rfl
                  have hcz66_1 : wr.cell? ⟨gb181, 1, none⟩ = some (.int .i64 a0_1) := (blk_cell BK181.out 1).trans rfl
                  have hcz66_2 : wr.cell? ⟨gb181, 2, none⟩ = some (.int .i64 a0_2) := (blk_cell BK181.out 2).trans rfl
                  have hcz66_3 : wr.cell? ⟨gb181, 3, none⟩ = some (.int .i64 a0_3) := (blk_cell BK181.out 3).trans rfl
                  have hfz66_0 := blk_frozen BK181.out 0
                  have hfz66_1 := blk_frozen BK181.out 1
                  have hfz66_2 := blk_frozen BK181.out 2
                  have hfz66_3 := blk_frozen BK181.out 3
                  go_wp2
                  go_ret
                  exact ⟨_, by first | rfl | (simp [errW_none, errW_some] <;> rfl) | (simp [*, errW_none, errW_some] <;> rfl), by (with_reducible repeat (first | apply Kd.R_alloc | apply Kd.R_drewN | apply Kd.R_drew)); exact Kd.R_mono HO_7.out (fun _ hk => trivial), by repeat (first | (with_reducible first | exact HB.out | apply below_alloc | apply pw_below_drewN | apply below_drew1 | refine below_set ?_ GE181.out | refine below_set ?_ GE182.out | refine below_set ?_ GE189.out) | exact HB.out)⟩
    · replace c6 := Bool.eq_false_iff.mpr c6
      subst c6
      have H1 : (some (([(⟨(⟨a0_0, a0_1⟩ : S24), a0_2, a0_3⟩ : S26)] : List (S26)))) = some r := by rw [if_neg (show ¬ (false = true) by decide)] at H; exact H
      clear H
      have H := H1
      clear H1
      obtain ⟨y190, hy190⟩ : ∃ y_ : List (S26), y_ = (([(⟨(⟨a0_0, a0_1⟩ : S24), a0_2, a0_3⟩ : S26)] : List (S26))) := ⟨_, rfl⟩
      replace H : (some y190) = some r := by first | (rw [hy190]; with_reducible exact H) | (have H2_ := (Option.bind_some _ _).symm.trans H; rw [hy190]; with_reducible exact H2_) | (have H2_ := (Option.bind_some _ _).symm.trans H; with_reducible exact H2_) | with_reducible exact H | (rw [hy190]; exact H) | exact H
      have Ny190 := Aside0.mk hy190
      clear hy190
      obtain rfl := Option.some.inj H
      go_enter Try.func15, Try.ntmps15
      go_wp2_with (first | ((with_reducible refine gate_dst (N := 2) rfl ?_); refine box_event ?hg (N := 2) ?hd (cs := #[.int .u32 a0_0, .int .i64 a0_1, .int .i64 a0_2, .int .i64 a0_3]) (t := 26) ?hr ?_; (case hd => rfl); (case hg => rfl); (case hr => first | (go_simp; done) | (go_simp; rfl)); intro gb181 hg w67 hbox hb; have n0_ := Aside0.mk (below_step (by repeat (first | (with_reducible first | exact HB.out | apply below_alloc | apply pw_below_drewN | apply below_drew1) | exact HB.out)) hb); have n1_ := Aside0.mk (hbox); have n2_ := Aside0.mk ((by rw [hg]; exact (below_size (by repeat (first | (with_reducible first | exact HB.out | apply below_alloc | apply pw_below_drewN | apply below_drew1) | exact HB.out))) : w.heap.size ≤ gb181)); have n3_ := Aside0.mk ((by rw [hg]; exact (below_size (by repeat (first | (with_reducible first | exact HB.out | apply below_alloc | apply pw_below_drewN | apply below_drew1) | exact HB.out))) : w.heap.size ≤ gb181)); clear HB; have HB := n0_; have BK181 := n1_; have GW181 := n2_; have GE181 := n3_; clear n0_ n1_ n2_ n3_; clear hb hbox hg) | ((with_reducible refine gate_dst (N := 3) rfl ?_); refine box_event ?hg (N := 3) ?hd (cs := #[.int .u32 a1_0, .int .i64 a1_1, .int .i64 a1_2, .int .i64 a1_3]) (t := 26) ?hr ?_; (case hd => rfl); (case hg => rfl); (case hr => first | (go_simp; done) | (go_simp; rfl)); intro gb182 hg w68 hbox hb; have n0_ := Aside0.mk (blk_below (g := gb181) (o := .cells #[.int .u32 a0_0, .int .i64 a0_1, .int .i64 a0_2, .int .i64 a0_3] 26 (0, 0)) (by (with_reducible repeat (first | refine blk_drewN ?_ _ | refine blk_drew ?_ | refine blk_alloc ?_ _)); exact BK181.out) hb); have n1_ := Aside0.mk (below_step (by repeat (first | (with_reducible first | exact HB.out | apply below_alloc | apply pw_below_drewN | apply below_drew1 | refine below_set ?_ GE181.out) | exact HB.out)) hb); have n2_ := Aside0.mk (hbox); have n3_ := Aside0.mk ((by rw [hg]; exact (below_size (by repeat (first | (with_reducible first | exact HB.out | apply below_alloc | apply pw_below_drewN | apply below_drew1 | refine below_set ?_ GE181.out) | exact HB.out))) : w.heap.size ≤ gb182)); have n4_ := Aside0.mk ((by rw [hg]; exact (below_size (by repeat (first | (with_reducible first | exact HB.out | apply below_alloc | apply pw_below_drewN | apply below_drew1 | refine below_set ?_ GE181.out) | exact HB.out))) : w.heap.size ≤ gb182)); have n5_ := Aside0.mk ((by rw [hg]; exact Nat.ne_of_lt (blk_lt (g := gb181) (o := .cells #[.int .u32 a0_0, .int .i64 a0_1, .int .i64 a0_2, .int .i64 a0_3] 26 (0, 0)) (by (with_reducible repeat (first | refine blk_drewN ?_ _ | refine blk_drew ?_ | refine blk_alloc ?_ _)); exact BK181.out)) : gb181 ≠ gb182)); have n6_ := Aside0.mk ((by rw [hg]; exact Nat.ne_of_gt (blk_lt (g := gb181) (o := .cells #[.int .u32 a0_0, .int .i64 a0_1, .int .i64 a0_2, .int .i64 a0_3] 26 (0, 0)) (by (with_reducible repeat (first | refine blk_drewN ?_ _ | refine blk_drew ?_ | refine blk_alloc ?_ _)); exact BK181.out)) : gb182 ≠ gb181)); clear BK181; clear HB; have BK181 := n0_; have HB := n1_; have BK182 := n2_; have GW182 := n3_; have GE182 := n4_; have NB181_182 := n5_; have NB182_181 := n6_; clear n0_ n1_ n2_ n3_ n4_ n5_ n6_; clear hb hbox hg; have hnb69 := NB181_182.out; have hnc69 := NB182_181.out; have hcz70_0 : w68.cell? ⟨gb181, 0, none⟩ = some (.int .u32 a0_0) := (blk_cell BK181.out 0).trans rfl; have hcz70_1 : w68.cell? ⟨gb181, 1, none⟩ = some (.int .i64 a0_1) := (blk_cell BK181.out 1).trans rfl; have hcz70_2 : w68.cell? ⟨gb181, 2, none⟩ = some (.int .i64 a0_2) := (blk_cell BK181.out 2).trans rfl; have hcz70_3 : w68.cell? ⟨gb181, 3, none⟩ = some (.int .i64 a0_3) := (blk_cell BK181.out 3).trans rfl; have hfz70_0 := blk_frozen BK181.out 0; have hfz70_1 := blk_frozen BK181.out 1; have hfz70_2 := blk_frozen BK181.out 2; have hfz70_3 := blk_frozen BK181.out 3) | ((with_reducible refine gate_callee (f := 20) rfl ?_); refine goesL_ (some 13) rfl rfl Try.func20 (by kernel_rfl) rfl #[.agg #[.int .u32 a0_0, .int .i64 a0_1, .int .i64 a0_2, .int .i64 a0_3]] rfl (by (try simp only [List.map_toArray, List.map_cons, List.map_nil]); first | done | rfl | (simp only [List.length_drop, List.length_take]; rfl)) ?_; (with_reducible refine (dragomanref04_Right.calls k a0_0 a0_1 a0_2 a0_3 true _ A3.out).mono ?_); rintro e w71 ⟨rfl, hb⟩; refine ⟨_, rfl, ?_⟩; have n0_ := Aside0.mk (blk_below (g := gb181) (o := .cells #[.int .u32 a0_0, .int .i64 a0_1, .int .i64 a0_2, .int .i64 a0_3] 26 (0, 0)) (by (with_reducible repeat (first | refine blk_drewN ?_ _ | refine blk_drew ?_ | refine blk_alloc ?_ _)); exact BK181.out) hb); have n1_ := Aside0.mk (blk_below (g := gb182) (o := .cells #[.int .u32 a1_0, .int .i64 a1_1, .int .i64 a1_2, .int .i64 a1_3] 26 (0, 0)) (by (with_reducible repeat (first | refine blk_drewN ?_ _ | refine blk_drew ?_ | refine blk_alloc ?_ _)); exact BK182.out) hb); have n2_ := Aside0.mk (below_step (by repeat (first | (with_reducible first | exact HB.out | apply below_alloc | apply pw_below_drewN | apply below_drew1 | refine below_set ?_ GE181.out | refine below_set ?_ GE182.out) | exact HB.out)) hb); clear BK181; clear BK182; clear HB; have BK181 := n0_; have BK182 := n1_; have HB := n2_; clear n0_ n1_ n2_; (try clear hb); (try clear hb2); (try clear hk); (try clear hi); have hcz72_0 : w71.cell? ⟨gb181, 0, none⟩ = some (.int .u32 a0_0) := (blk_cell BK181.out 0).trans rfl; have hcz72_1 : w71.cell? ⟨gb181, 1, none⟩ = some (.int .i64 a0_1) := (blk_cell BK181.out 1).trans rfl; have hcz72_2 : w71.cell? ⟨gb181, 2, none⟩ = some (.int .i64 a0_2) := (blk_cell BK181.out 2).trans rfl; have hcz72_3 : w71.cell? ⟨gb181, 3, none⟩ = some (.int .i64 a0_3) := (blk_cell BK181.out 3).trans rfl; have hfz72_0 := blk_frozen BK181.out 0; have hfz72_1 := blk_frozen BK181.out 1; have hfz72_2 := blk_frozen BK181.out 2; have hfz72_3 := blk_frozen BK181.out 3; have hcz73_0 : w71.cell? ⟨gb182, 0, none⟩ = some (.int .u32 a1_0) := (blk_cell BK182.out 0).trans rfl; have hcz73_1 : w71.cell? ⟨gb182, 1, none⟩ = some (.int .i64 a1_1) := (blk_cell BK182.out 1).trans rfl; have hcz73_2 : w71.cell? ⟨gb182, 2, none⟩ = some (.int .i64 a1_2) := (blk_cell BK182.out 2).trans rfl; have hcz73_3 : w71.cell? ⟨gb182, 3, none⟩ = some (.int .i64 a1_3) := (blk_cell BK182.out 3).trans rfl; have hfz73_0 := blk_frozen BK182.out 0; have hfz73_1 := blk_frozen BK182.out 1; have hfz73_2 := blk_frozen BK182.out 2; have hfz73_3 := blk_frozen BK182.out 3) | ((with_reducible refine gate_callee (f := 12) rfl ?_); refine goesL_ (some 18) rfl rfl Try.func12 (by kernel_rfl) rfl #[.agg #[.int .u32 a0_0, .int .i64 a0_1, .int .i64 a0_2, .int .i64 a0_3], .agg #[.int .u32 a1_0, .int .i64 a1_1, .int .i64 a1_2, .int .i64 a1_3]] rfl (by (try simp only [List.map_toArray, List.map_cons, List.map_nil]); first | done | rfl | (simp only [List.length_drop, List.length_take]; rfl)) ?_; (with_reducible refine (dragomanref04_Meet.calls k a0_0 a0_1 a0_2 a0_3 a1_0 a1_1 a1_2 a1_3 t184 t185 t186 t187 false _ A5.out).mono ?_); rintro e w74 ⟨rfl, hb⟩; refine ⟨_, rfl, ?_⟩; have n0_ := Aside0.mk (blk_below (g := gb181) (o := .cells #[.int .u32 a0_0, .int .i64 a0_1, .int .i64 a0_2, .int .i64 a0_3] 26 (0, 0)) (by (with_reducible repeat (first | refine blk_drewN ?_ _ | refine blk_drew ?_ | refine blk_alloc ?_ _)); exact BK181.out) hb); have n1_ := Aside0.mk (blk_below (g := gb182) (o := .cells #[.int .u32 a1_0, .int .i64 a1_1, .int .i64 a1_2, .int .i64 a1_3] 26 (0, 0)) (by (with_reducible repeat (first | refine blk_drewN ?_ _ | refine blk_drew ?_ | refine blk_alloc ?_ _)); exact BK182.out) hb); have n2_ := Aside0.mk (below_step (by repeat (first | (with_reducible first | exact HB.out | apply below_alloc | apply pw_below_drewN | apply below_drew1 | refine below_set ?_ GE181.out | refine below_set ?_ GE182.out) | exact HB.out)) hb); clear BK181; clear BK182; clear HB; have BK181 := n0_; have BK182 := n1_; have HB := n2_; clear n0_ n1_ n2_; (try clear hb); (try clear hb2); (try clear hk); (try clear hi)) | ((with_reducible refine gate_dst (N := 5) rfl ?_); refine box_event ?hg (N := 5) ?hd (cs := #[.int .u32 0, .int .i64 0, .int .i64 0, .int .i64 0]) (t := 26) ?hr ?_; (case hd => rfl); (case hg => rfl); (case hr => first | (go_simp; done) | (go_simp; rfl)); intro gb189 hg w75 hbox hb; have n0_ := Aside0.mk (blk_below (g := gb181) (o := .cells #[.int .u32 a0_0, .int .i64 a0_1, .int .i64 a0_2, .int .i64 a0_3] 26 (0, 0)) (by (with_reducible repeat (first | refine blk_drewN ?_ _ | refine blk_drew ?_ | refine blk_alloc ?_ _)); exact BK181.out) hb); have n1_ := Aside0.mk (blk_below (g := gb182) (o := .cells #[.int .u32 a1_0, .int .i64 a1_1, .int .i64 a1_2, .int .i64 a1_3] 26 (0, 0)) (by (with_reducible repeat (first | refine blk_drewN ?_ _ | refine blk_drew ?_ | refine blk_alloc ?_ _)); exact BK182.out) hb); have n2_ := Aside0.mk (below_step (by repeat (first | (with_reducible first | exact HB.out | apply below_alloc | apply pw_below_drewN | apply below_drew1 | refine below_set ?_ GE181.out | refine below_set ?_ GE182.out) | exact HB.out)) hb); have n3_ := Aside0.mk (hbox); have n4_ := Aside0.mk ((by rw [hg]; exact (below_size (by repeat (first | (with_reducible first | exact HB.out | apply below_alloc | apply pw_below_drewN | apply below_drew1 | refine below_set ?_ GE181.out | refine below_set ?_ GE182.out) | exact HB.out))) : w.heap.size ≤ gb189)); have n5_ := Aside0.mk ((by rw [hg]; exact (below_size (by repeat (first | (with_reducible first | exact HB.out | apply below_alloc | apply pw_below_drewN | apply below_drew1 | refine below_set ?_ GE181.out | refine below_set ?_ GE182.out) | exact HB.out))) : w.heap.size ≤ gb189)); have n6_ := Aside0.mk ((by rw [hg]; exact Nat.ne_of_lt (blk_lt (g := gb181) (o := .cells #[.int .u32 a0_0, .int .i64 a0_1, .int .i64 a0_2, .int .i64 a0_3] 26 (0, 0)) (by (with_reducible repeat (first | refine blk_drewN ?_ _ | refine blk_drew ?_ | refine blk_alloc ?_ _)); exact BK181.out)) : gb181 ≠ gb189)); have n7_ := Aside0.mk ((by rw [hg]; exact Nat.ne_of_gt (blk_lt (g := gb181) (o := .cells #[.int .u32 a0_0, .int .i64 a0_1, .int .i64 a0_2, .int .i64 a0_3] 26 (0, 0)) (by (with_reducible repeat (first | refine blk_drewN ?_ _ | refine blk_drew ?_ | refine blk_alloc ?_ _)); exact BK181.out)) : gb189 ≠ gb181)); have n8_ := Aside0.mk ((by rw [hg]; exact Nat.ne_of_lt (blk_lt (g := gb182) (o := .cells #[.int .u32 a1_0, .int .i64 a1_1, .int .i64 a1_2, .int .i64 a1_3] 26 (0, 0)) (by (with_reducible repeat (first | refine blk_drewN ?_ _ | refine blk_drew ?_ | refine blk_alloc ?_ _)); exact BK182.out)) : gb182 ≠ gb189)); have n9_ := Aside0.mk ((by rw [hg]; exact Nat.ne_of_gt (blk_lt (g := gb182) (o := .cells #[.int .u32 a1_0, .int .i64 a1_1, .int .i64 a1_2, .int .i64 a1_3] 26 (0, 0)) (by (with_reducible repeat (first | refine blk_drewN ?_ _ | refine blk_drew ?_ | refine blk_alloc ?_ _)); exact BK182.out)) : gb189 ≠ gb182)); clear BK181; clear BK182; clear HB; have BK181 := n0_; have BK182 := n1_; have HB := n2_; have BK189 := n3_; have GW189 := n4_; have GE189 := n5_; have NB181_189 := n6_; have NB189_181 := n7_; have NB182_189 := n8_; have NB189_182 := n9_; clear n0_ n1_ n2_ n3_ n4_ n5_ n6_ n7_ n8_ n9_; clear hb hbox hg; have hnb76 := NB189_181.out; have hnc76 := NB181_189.out; have hnb77 := NB189_182.out; have hnc77 := NB182_189.out; have hcz78_0 : w75.cell? ⟨gb189, 0, none⟩ = some (.int .u32 0) := (blk_cell BK189.out 0).trans rfl; have hcz78_1 : w75.cell? ⟨gb189, 1, none⟩ = some (.int .i64 0) := (blk_cell BK189.out 1).trans rfl; have hcz78_2 : w75.cell? ⟨gb189, 2, none⟩ = some (.int .i64 0) := (blk_cell BK189.out 2).trans rfl; have hcz78_3 : w75.cell? ⟨gb189, 3, none⟩ = some (.int .i64 0) := (blk_cell BK189.out 3).trans rfl; have hfz78_0 := blk_frozen BK189.out 0; have hfz78_1 := blk_frozen BK189.out 1; have hfz78_2 := blk_frozen BK189.out 2; have hfz78_3 := blk_frozen BK189.out 3; have hcz79_0 : w75.cell? ⟨gb181, 0, none⟩ = some (.int .u32 a0_0) := (blk_cell BK181.out 0).trans rfl; have hcz79_1 : w75.cell? ⟨gb181, 1, none⟩ = some (.int .i64 a0_1) := (blk_cell BK181.out 1).trans rfl; have hcz79_2 : w75.cell? ⟨gb181, 2, none⟩ = some (.int .i64 a0_2) := (blk_cell BK181.out 2).trans rfl; have hcz79_3 : w75.cell? ⟨gb181, 3, none⟩ = some (.int .i64 a0_3) := (blk_cell BK181.out 3).trans rfl; have hfz79_0 := blk_frozen BK181.out 0; have hfz79_1 := blk_frozen BK181.out 1; have hfz79_2 := blk_frozen BK181.out 2; have hfz79_3 := blk_frozen BK181.out 3) | ((with_reducible refine gate_dst (N := 24) rfl ?_); refine Kd.R_lit k26 _ 26 ?hg (N := 24) ?hd (xs := ([(⟨(⟨a0_0, a0_1⟩ : S24), a0_2, a0_3⟩ : S26)] : List (S26))) (inner := [.int .u32 a0_0, .int .i64 a0_1, .int .i64 a0_2, .int .i64 a0_3]) (ok := fun _ => True) (okp := fun _ => True) ?hr ?hp (fun _ hk => hk) trivial (Below.refl _ _) (Nat.le_refl _) (by simp) ?_; (case hd => rfl); (case hg => rfl); (case hr => first | (go_simp; done) | (go_simp; rfl)); (case hp => exact (Reps.c4 (show Kd.M k26 _ _ _ (⟨(⟨a0_0, a0_1⟩ : S24), a0_2, a0_3⟩ : S26) [.int .u32 a0_0, .int .i64 a0_1, .int .i64 a0_2, .int .i64 a0_3] from (k26_mkM _ _ _ (⟨(⟨a0_0, a0_1⟩ : S24), a0_2, a0_3⟩ : S26) )) (Reps.none _ _))); intro v191 w80 ho81 hb hg_ hnew_; clear hg_ hnew_; (first | rw [← Ny190.out] at ho81 | (simp only [Int.reduceToNat] at ho81; rw [← Ny190.out] at ho81)); have n0_ := Aside0.mk (Kd.R_lower (Kd.R_newB (Kd.R_newB (Kd.R_newB ho81 (g := gb181) (o := .cells #[.int .u32 a0_0, .int .i64 a0_1, .int .i64 a0_2, .int .i64 a0_3] 26 (0, 0)) (by (with_reducible repeat (first | refine blk_drewN ?_ _ | refine blk_drew ?_ | refine blk_alloc ?_ _)); refine blk_far ?_ NB181_189.out _; (with_reducible repeat (first | refine blk_drewN ?_ _ | refine blk_drew ?_ | refine blk_alloc ?_ _)); refine blk_far ?_ NB181_189.out _; (with_reducible repeat (first | refine blk_drewN ?_ _ | refine blk_drew ?_ | refine blk_alloc ?_ _)); refine blk_far ?_ NB181_189.out _; (with_reducible repeat (first | refine blk_drewN ?_ _ | refine blk_drew ?_ | refine blk_alloc ?_ _)); refine blk_far ?_ NB181_189.out _; (with_reducible repeat (first | refine blk_drewN ?_ _ | refine blk_drew ?_ | refine blk_alloc ?_ _)); exact BK181.out)) (g := gb182) (o := .cells #[.int .u32 a1_0, .int .i64 a1_1, .int .i64 a1_2, .int .i64 a1_3] 26 (0, 0)) (by (with_reducible repeat (first | refine blk_drewN ?_ _ | refine blk_drew ?_ | refine blk_alloc ?_ _)); refine blk_far ?_ NB182_189.out _; (with_reducible repeat (first | refine blk_drewN ?_ _ | refine blk_drew ?_ | refine blk_alloc ?_ _)); refine blk_far ?_ NB182_189.out _; (with_reducible repeat (first | refine blk_drewN ?_ _ | refine blk_drew ?_ | refine blk_alloc ?_ _)); refine blk_far ?_ NB182_189.out _; (with_reducible repeat (first | refine blk_drewN ?_ _ | refine blk_drew ?_ | refine blk_alloc ?_ _)); refine blk_far ?_ NB182_189.out _; (with_reducible repeat (first | refine blk_drewN ?_ _ | refine blk_drew ?_ | refine blk_alloc ?_ _)); exact BK182.out)) (g := gb189) (o := .cells #[.int .u32 t184, .int .i64 t185, .int .i64 t186, .int .i64 t187] 26 (0, 0)) (by (with_reducible repeat (first | refine blk_drewN ?_ _ | refine blk_drew ?_ | refine blk_alloc ?_ _)); refine blk_put (cs := #[.int .u32 t184, .int .i64 t185, .int .i64 t186, .int .i64 0]) ?_ 3 _ rfl; (with_reducible repeat (first | refine blk_drewN ?_ _ | refine blk_drew ?_ | refine blk_alloc ?_ _)); refine blk_put (cs := #[.int .u32 t184, .int .i64 t185, .int .i64 0, .int .i64 0]) ?_ 2 _ rfl; (with_reducible repeat (first | refine blk_drewN ?_ _ | refine blk_drew ?_ | refine blk_alloc ?_ _)); refine blk_put (cs := #[.int .u32 t184, .int .i64 0, .int .i64 0, .int .i64 0]) ?_ 1 _ rfl; (with_reducible repeat (first | refine blk_drewN ?_ _ | refine blk_drew ?_ | refine blk_alloc ?_ _)); refine blk_put (cs := #[.int .u32 0, .int .i64 0, .int .i64 0, .int .i64 0]) ?_ 0 _ rfl; (with_reducible repeat (first | refine blk_drewN ?_ _ | refine blk_drew ?_ | refine blk_alloc ?_ _)); exact BK189.out)) (below_size (by repeat (first | (with_reducible first | exact HB.out | apply below_alloc | apply pw_below_drewN | apply below_drew1 | refine below_set ?_ GE181.out | refine below_set ?_ GE182.out | refine below_set ?_ GE189.out) | exact HB.out)))); have n1_ := Aside0.mk (blk_below (g := gb181) (o := .cells #[.int .u32 a0_0, .int .i64 a0_1, .int .i64 a0_2, .int .i64 a0_3] 26 (0, 0)) (by (with_reducible repeat (first | refine blk_drewN ?_ _ | refine blk_drew ?_ | refine blk_alloc ?_ _)); refine blk_far ?_ NB181_189.out _; (with_reducible repeat (first | refine blk_drewN ?_ _ | refine blk_drew ?_ | refine blk_alloc ?_ _)); refine blk_far ?_ NB181_189.out _; (with_reducible repeat (first | refine blk_drewN ?_ _ | refine blk_drew ?_ | refine blk_alloc ?_ _)); refine blk_far ?_ NB181_189.out _; (with_reducible repeat (first | refine blk_drewN ?_ _ | refine blk_drew ?_ | refine blk_alloc ?_ _)); refine blk_far ?_ NB181_189.out _; (with_reducible repeat (first | refine blk_drewN ?_ _ | refine blk_drew ?_ | refine blk_alloc ?_ _)); exact BK181.out) hb); have n2_ := Aside0.mk (blk_below (g := gb182) (o := .cells #[.int .u32 a1_0, .int .i64 a1_1, .int .i64 a1_2, .int .i64 a1_3] 26 (0, 0)) (by (with_reducible repeat (first | refine blk_drewN ?_ _ | refine blk_drew ?_ | refine blk_alloc ?_ _)); refine blk_far ?_ NB182_189.out _; (with_reducible repeat (first | refine blk_drewN ?_ _ | refine blk_drew ?_ | refine blk_alloc ?_ _)); refine blk_far ?_ NB182_189.out _; (with_reducible repeat (first | refine blk_drewN ?_ _ | refine blk_drew ?_ | refine blk_alloc ?_ _)); refine blk_far ?_ NB182_189.out _; (with_reducible repeat (first | refine blk_drewN ?_ _ | refine blk_drew ?_ | refine blk_alloc ?_ _)); refine blk_far ?_ NB182_189.out _; (with_reducible repeat (first | refine blk_drewN ?_ _ | refine blk_drew ?_ | refine blk_alloc ?_ _)); exact BK182.out) hb); have n3_ := Aside0.mk (blk_below (g := gb189) (o := .cells #[.int .u32 t184, .int .i64 t185, .int .i64 t186, .int .i64 t187] 26 (0, 0)) (by (with_reducible repeat (first | refine blk_drewN ?_ _ | refine blk_drew ?_ | refine blk_alloc ?_ _)); refine blk_put (cs := #[.int .u32 t184, .int .i64 t185, .int .i64 t186, .int .i64 0]) ?_ 3 _ rfl; (with_reducible repeat (first | refine blk_drewN ?_ _ | refine blk_drew ?_ | refine blk_alloc ?_ _)); refine blk_put (cs := #[.int .u32 t184, .int .i64 t185, .int .i64 0, .int .i64 0]) ?_ 2 _ rfl; (with_reducible repeat (first | refine blk_drewN ?_ _ | refine blk_drew ?_ | refine blk_alloc ?_ _)); refine blk_put (cs := #[.int .u32 t184, .int .i64 0, .int .i64 0, .int .i64 0]) ?_ 1 _ rfl; (with_reducible repeat (first | refine blk_drewN ?_ _ | refine blk_drew ?_ | refine blk_alloc ?_ _)); refine blk_put (cs := #[.int .u32 0, .int .i64 0, .int .i64 0, .int .i64 0]) ?_ 0 _ rfl; (with_reducible repeat (first | refine blk_drewN ?_ _ | refine blk_drew ?_ | refine blk_alloc ?_ _)); exact BK189.out) hb); have n4_ := Aside0.mk (below_step (by repeat (first | (with_reducible first | exact HB.out | apply below_alloc | apply pw_below_drewN | apply below_drew1 | refine below_set ?_ GE181.out | refine below_set ?_ GE182.out | refine below_set ?_ GE189.out) | exact HB.out)) hb); clear BK181; clear BK182; clear BK189; clear HB; have HO192 := n0_; have BK181 := n1_; have BK182 := n2_; have BK189 := n3_; have HB := n4_; clear n0_ n1_ n2_ n3_ n4_; clear hb ho81))
      go_ret
      exact ⟨_, by first | rfl | (simp [errW_none, errW_some] <;> rfl) | (simp [*, errW_none, errW_some] <;> rfl), by (with_reducible repeat (first | apply Kd.R_alloc | apply Kd.R_drewN | apply Kd.R_drew)); exact Kd.R_mono HO192.out (fun _ hk => trivial), by repeat (first | (with_reducible first | exact HB.out | apply below_alloc | apply pw_below_drewN | apply below_drew1 | refine below_set ?_ GE181.out | refine below_set ?_ GE182.out | refine below_set ?_ GE189.out) | exact HB.out)⟩
  · replace c4 := Bool.eq_false_iff.mpr c4
    subst c4
    have H1 : (some ([] : List (S26))) = some r := by rw [if_neg (show ¬ (false = true) by decide)] at H; exact H
    clear H
    have H := H1
    clear H1
    obtain rfl := Option.some.inj H
    go_enter Try.func15, Try.ntmps15
    go_wp2_with (first | ((with_reducible refine gate_dst (N := 2) rfl ?_); refine box_event ?hg (N := 2) ?hd (cs := #[.int .u32 a0_0, .int .i64 a0_1, .int .i64 a0_2, .int .i64 a0_3]) (t := 26) ?hr ?_; (case hd => rfl); (case hg => rfl); (case hr => first | (go_simp; done) | (go_simp; rfl)); intro gb181 hg w82 hbox hb; have n0_ := Aside0.mk (below_step (by repeat (first | (with_reducible first | exact HB.out | apply below_alloc | apply pw_below_drewN | apply below_drew1) | exact HB.out)) hb); have n1_ := Aside0.mk (hbox); have n2_ := Aside0.mk ((by rw [hg]; exact (below_size (by repeat (first | (with_reducible first | exact HB.out | apply below_alloc | apply pw_below_drewN | apply below_drew1) | exact HB.out))) : w.heap.size ≤ gb181)); have n3_ := Aside0.mk ((by rw [hg]; exact (below_size (by repeat (first | (with_reducible first | exact HB.out | apply below_alloc | apply pw_below_drewN | apply below_drew1) | exact HB.out))) : w.heap.size ≤ gb181)); clear HB; have HB := n0_; have BK181 := n1_; have GW181 := n2_; have GE181 := n3_; clear n0_ n1_ n2_ n3_; clear hb hbox hg) | ((with_reducible refine gate_dst (N := 3) rfl ?_); refine box_event ?hg (N := 3) ?hd (cs := #[.int .u32 a1_0, .int .i64 a1_1, .int .i64 a1_2, .int .i64 a1_3]) (t := 26) ?hr ?_; (case hd => rfl); (case hg => rfl); (case hr => first | (go_simp; done) | (go_simp; rfl)); intro gb182 hg w83 hbox hb; have n0_ := Aside0.mk (blk_below (g := gb181) (o := .cells #[.int .u32 a0_0, .int .i64 a0_1, .int .i64 a0_2, .int .i64 a0_3] 26 (0, 0)) (by (with_reducible repeat (first | refine blk_drewN ?_ _ | refine blk_drew ?_ | refine blk_alloc ?_ _)); exact BK181.out) hb); have n1_ := Aside0.mk (below_step (by repeat (first | (with_reducible first | exact HB.out | apply below_alloc | apply pw_below_drewN | apply below_drew1 | refine below_set ?_ GE181.out) | exact HB.out)) hb); have n2_ := Aside0.mk (hbox); have n3_ := Aside0.mk ((by rw [hg]; exact (below_size (by repeat (first | (with_reducible first | exact HB.out | apply below_alloc | apply pw_below_drewN | apply below_drew1 | refine below_set ?_ GE181.out) | exact HB.out))) : w.heap.size ≤ gb182)); have n4_ := Aside0.mk ((by rw [hg]; exact (below_size (by repeat (first | (with_reducible first | exact HB.out | apply below_alloc | apply pw_below_drewN | apply below_drew1 | refine below_set ?_ GE181.out) | exact HB.out))) : w.heap.size ≤ gb182)); have n5_ := Aside0.mk ((by rw [hg]; exact Nat.ne_of_lt (blk_lt (g := gb181) (o := .cells #[.int .u32 a0_0, .int .i64 a0_1, .int .i64 a0_2, .int .i64 a0_3] 26 (0, 0)) (by (with_reducible repeat (first | refine blk_drewN ?_ _ | refine blk_drew ?_ | refine blk_alloc ?_ _)); exact BK181.out)) : gb181 ≠ gb182)); have n6_ := Aside0.mk ((by rw [hg]; exact Nat.ne_of_gt (blk_lt (g := gb181) (o := .cells #[.int .u32 a0_0, .int .i64 a0_1, .int .i64 a0_2, .int .i64 a0_3] 26 (0, 0)) (by (with_reducible repeat (first | refine blk_drewN ?_ _ | refine blk_drew ?_ | refine blk_alloc ?_ _)); exact BK181.out)) : gb182 ≠ gb181)); clear BK181; clear HB; have BK181 := n0_; have HB := n1_; have BK182 := n2_; have GW182 := n3_; have GE182 := n4_; have NB181_182 := n5_; have NB182_181 := n6_; clear n0_ n1_ n2_ n3_ n4_ n5_ n6_; clear hb hbox hg; have hnb84 := NB181_182.out; have hnc84 := NB182_181.out; have hcz85_0 : w83.cell? ⟨gb181, 0, none⟩ = some (.int .u32 a0_0) := (blk_cell BK181.out 0).trans rfl; have hcz85_1 : w83.cell? ⟨gb181, 1, none⟩ = some (.int .i64 a0_1) := (blk_cell BK181.out 1).trans rfl; have hcz85_2 : w83.cell? ⟨gb181, 2, none⟩ = some (.int .i64 a0_2) := (blk_cell BK181.out 2).trans rfl; have hcz85_3 : w83.cell? ⟨gb181, 3, none⟩ = some (.int .i64 a0_3) := (blk_cell BK181.out 3).trans rfl; have hfz85_0 := blk_frozen BK181.out 0; have hfz85_1 := blk_frozen BK181.out 1; have hfz85_2 := blk_frozen BK181.out 2; have hfz85_3 := blk_frozen BK181.out 3) | ((with_reducible refine gate_callee (f := 20) rfl ?_); refine goesL_ (some 13) rfl rfl Try.func20 (by kernel_rfl) rfl #[.agg #[.int .u32 a0_0, .int .i64 a0_1, .int .i64 a0_2, .int .i64 a0_3]] rfl (by (try simp only [List.map_toArray, List.map_cons, List.map_nil]); first | done | rfl | (simp only [List.length_drop, List.length_take]; rfl)) ?_; (with_reducible refine (dragomanref04_Right.calls k a0_0 a0_1 a0_2 a0_3 false _ A3.out).mono ?_); rintro e w86 ⟨rfl, hb⟩; refine ⟨_, rfl, ?_⟩; have n0_ := Aside0.mk (blk_below (g := gb181) (o := .cells #[.int .u32 a0_0, .int .i64 a0_1, .int .i64 a0_2, .int .i64 a0_3] 26 (0, 0)) (by (with_reducible repeat (first | refine blk_drewN ?_ _ | refine blk_drew ?_ | refine blk_alloc ?_ _)); exact BK181.out) hb); have n1_ := Aside0.mk (blk_below (g := gb182) (o := .cells #[.int .u32 a1_0, .int .i64 a1_1, .int .i64 a1_2, .int .i64 a1_3] 26 (0, 0)) (by (with_reducible repeat (first | refine blk_drewN ?_ _ | refine blk_drew ?_ | refine blk_alloc ?_ _)); exact BK182.out) hb); have n2_ := Aside0.mk (below_step (by repeat (first | (with_reducible first | exact HB.out | apply below_alloc | apply pw_below_drewN | apply below_drew1 | refine below_set ?_ GE181.out | refine below_set ?_ GE182.out) | exact HB.out)) hb); clear BK181; clear BK182; clear HB; have BK181 := n0_; have BK182 := n1_; have HB := n2_; clear n0_ n1_ n2_; (try clear hb); (try clear hb2); (try clear hk); (try clear hi)))
    go_ret
    exact ⟨_, by first | rfl | (simp [errW_none, errW_some] <;> rfl) | (simp [*, errW_none, errW_some] <;> rfl), by first | exact Kd.R_nil _ _ _ _ _ | exact Kd.N_nil _ _ _ _ _ | exact Kd.V_nil _ _ _ _ _ | exact Kd.Q_nil _ _ _ _ _ | exact Kd.S_nil _ _ _ _ _, by repeat (first | (with_reducible first | exact HB.out | apply below_alloc | apply pw_below_drewN | apply below_drew1 | refine below_set ?_ GE181.out | refine below_set ?_ GE182.out) | exact HB.out)⟩

end Go.Proofs.Ytgljfjjainlhgaa.PPfxFlat
