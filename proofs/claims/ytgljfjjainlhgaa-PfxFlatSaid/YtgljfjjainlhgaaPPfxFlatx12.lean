/- Written for this claim by a program of this session, after the kit's print. Not trusted: Lean checks it. -/
import Derived.Test.YtgljfjjainlhgaaPPfxFlatx0
import Derived.Test.YtgljfjjainlhgaaPPfxFlatx9
import Derived.Test.YtgljfjjainlhgaaPPfxFlatx11
namespace Go.Proofs.Ytgljfjjainlhgaa.PPfxFlat
open Go.RowKit Go.Proofs.YtgljfjjainlhgaaW.PrintWords Go.Proofs.YtgljfjjainlhgaaW.PrintLast Go.Proofs.YtgljfjjainlhgaaW.PrintMore
attribute [local go_sem] max2_int min2_int max_two min_two max_three min_three max_four min_four   -- for this text's walks alone
set_option linter.unusedVariables false
set_option linter.unusedSimpArgs false

/-! ### dragomanref04_Flat: function 17 -/
mutual
def dragomanref04_Flat.l0 : Nat → List (S41) → List (S26) → Int → Option ((List (S26)) × Int)
  | 0, _, _, _ => none
  | k + 1, x0, x4, x5 => if x5 ≥ 0 then (if 0 ≤ x5 then (if x5 < (x0.length : Int) then ((dragomanref04_Right.f k ((rd_T41 x0 x5).f1.f0.f0) ((rd_T41 x0 x5).f1.f0.f1) ((rd_T41 x0 x5).f1.f1) ((rd_T41 x0 x5).f1.f2)).bind fun t207 => (if t207 = true then (dragomanref04_Flat.l1 k x0 x5 ([] : List (S26)) x4 (x4.length : Int) 0) else (dragomanref04_Flat.l0 k x0 x4 (wrap64 (x5 - 1))))) else (none)) else (none)) else (some (x4, 0))
def dragomanref04_Flat.l1 : Nat → List (S41) → Int → List (S26) → List (S26) → Int → Int → Option ((List (S26)) × Int)
  | 0, _, _, _, _, _, _ => none
  | k + 1, x0, x5, x6, x23, x24, x25 => if x25 < x24 then (if 0 ≤ x25 then (if x25 < (x23.length : Int) then (if 0 ≤ x5 then (if x5 < (x0.length : Int) then ((dragomanref04_Minus.f k ((rd_T26 x23 x25).f0.f0) ((rd_T26 x23 x25).f0.f1) ((rd_T26 x23 x25).f1) ((rd_T26 x23 x25).f2) ((rd_T41 x0 x5).f1.f0.f0) ((rd_T41 x0 x5).f1.f0.f1) ((rd_T41 x0 x5).f1.f1) ((rd_T41 x0 x5).f1.f2)).bind fun t211 => (if x6.length + t211.length < 4398046511104 then (dragomanref04_Flat.l1 k x0 x5 (x6 ++ t211) x23 x24 (wrap64 (x25 + 1))) else (none))) else (none)) else (none)) else (none)) else (none)) else (if 0 ≤ x5 then (if x5 < (x0.length : Int) then (if ((rd_T41 x0 x5).f0 = true) then (if (x6.length : Int) > 1024 then (some (([] : List (S26)), 6)) else (dragomanref04_Flat.l0 k x0 x6 (wrap64 (x5 - 1)))) else (if x6.length < 4398046511104 then ((some (x6 ++ [(⟨(⟨(rd_T41 x0 x5).f1.f0.f0, (rd_T41 x0 x5).f1.f0.f1⟩ : S24), (rd_T41 x0 x5).f1.f1, (rd_T41 x0 x5).f1.f2⟩ : S26)] : List (S26))).bind fun y219 => (if (y219.length : Int) > 1024 then (some (([] : List (S26)), 6)) else (dragomanref04_Flat.l0 k x0 y219 (wrap64 (x5 - 1))))) else (none))) else (none)) else (none))
end
def dragomanref04_Flat.f (k : Nat) (l0 : List (S41)) : Option ((List (S26)) × Int) := dragomanref04_Flat.l0 k l0 ([] : List (S26)) (wrap64 ((l0.length : Int) - 1))
theorem dragomanref04_Flat.mono_l : ∀ k, (∀ y0 y1 y2, LeO (dragomanref04_Flat.l0 k y0 y1 y2) (dragomanref04_Flat.l0 (k + 1) y0 y1 y2)) ∧ (∀ y0 y1 y2 y3 y4 y5, LeO (dragomanref04_Flat.l1 k y0 y1 y2 y3 y4 y5) (dragomanref04_Flat.l1 (k + 1) y0 y1 y2 y3 y4 y5))
  | 0 => ⟨fun _ _ _ r h => by simp [dragomanref04_Flat.l0] at h, fun _ _ _ _ _ _ r h => by simp [dragomanref04_Flat.l1] at h⟩
  | k + 1 => by
    obtain ⟨ih0, ih1⟩ := dragomanref04_Flat.mono_l k
    refine ⟨?_, ?_⟩
    · intro y0 y1 y2
      unfold dragomanref04_Flat.l0
      repeat' first
      | (with_reducible exact ih0 _ _ _)
      | (with_reducible exact ih1 _ _ _ _ _ _)
      | (with_reducible exact dragomanref04_Minus.mono _ _ _ _ _ _ _ _ _)
      | (with_reducible exact dragomanref04_Right.mono _ _ _ _ _)
      | (with_reducible exact LeO.refl _)
      | (with_reducible exact LeO.none _)
      | (with_reducible refine LeO.ite ?_ ?_)
      | (with_reducible refine LeO.bind ?_ (fun _ => ?_))
      | exact ih0 _ _ _
      | exact ih1 _ _ _ _ _ _
      | exact dragomanref04_Minus.mono _ _ _ _ _ _ _ _ _
      | exact dragomanref04_Right.mono _ _ _ _ _
      | exact LeO.none _
      | refine LeO.ite ?_ ?_
      | refine LeO.bind ?_ (fun _ => ?_)
    · intro y0 y1 y2 y3 y4 y5
      unfold dragomanref04_Flat.l1
      repeat' first
      | (with_reducible exact ih0 _ _ _)
      | (with_reducible exact ih1 _ _ _ _ _ _)
      | (with_reducible exact dragomanref04_Minus.mono _ _ _ _ _ _ _ _ _)
      | (with_reducible exact dragomanref04_Right.mono _ _ _ _ _)
      | (with_reducible exact LeO.refl _)
      | (with_reducible exact LeO.none _)
      | (with_reducible refine LeO.ite ?_ ?_)
      | (with_reducible refine LeO.bind ?_ (fun _ => ?_))
      | exact ih0 _ _ _
      | exact ih1 _ _ _ _ _ _
      | exact dragomanref04_Minus.mono _ _ _ _ _ _ _ _ _
      | exact dragomanref04_Right.mono _ _ _ _ _
      | exact LeO.none _
      | refine LeO.ite ?_ ?_
      | refine LeO.bind ?_ (fun _ => ?_)
theorem dragomanref04_Flat.mono : ∀ a0 k, LeO (dragomanref04_Flat.f k a0) (dragomanref04_Flat.f (k + 1) a0) := by
  intro a0 k
  obtain ⟨ih0, ih1⟩ := dragomanref04_Flat.mono_l k
  unfold dragomanref04_Flat.f
  repeat' first
      | (with_reducible exact ih0 _ _ _)
      | (with_reducible exact ih1 _ _ _ _ _ _)
      | (with_reducible exact dragomanref04_Minus.mono _ _ _ _ _ _ _ _ _)
      | (with_reducible exact dragomanref04_Right.mono _ _ _ _ _)
      | (with_reducible exact LeO.refl _)
      | (with_reducible exact LeO.none _)
      | (with_reducible refine LeO.ite ?_ ?_)
      | (with_reducible refine LeO.bind ?_ (fun _ => ?_))
      | exact ih0 _ _ _
      | exact ih1 _ _ _ _ _ _
      | exact dragomanref04_Minus.mono _ _ _ _ _ _ _ _ _
      | exact dragomanref04_Right.mono _ _ _ _ _
      | exact LeO.none _
      | refine LeO.ite ?_ ?_
      | refine LeO.bind ?_ (fun _ => ?_)
def dragomanref04_Flat.T10 : Bool × List (List Nat × List Nat) := (true, [([], []), ([], []), ([], []), ([], []), ([2, 3], [2, 3]), ([4], [4]), ([5], [5]), ([1, 6], [1, 6]), ([0, 7, 7], [0, 7]), ([8, 8, 0, 1, 2, 3, 4, 5, 6, 7, 8], [0, 8])])
def dragomanref04_Flat.B10 : List Nat := [0, 0, 0, 0, 12, 28, 60, 126, 255, 511]
theorem dragomanref04_Flat.tab10 : rtab .any (opsOf Try.f17 10) = dragomanref04_Flat.T10 := by kernel_rfl
theorem dragomanref04_Flat.bits10 : waitsOk dragomanref04_Flat.T10.2 dragomanref04_Flat.B10 = true := by kernel_rfl
set_option maxHeartbeats 8000000 in
set_option maxRecDepth 100000 in
theorem dragomanref04_Flat.calls (k : Nat) (A0 : Option Addr) (c0 : Nat) (l0 : List (S41)) (r1 : List (S26)) (r2 : Int) (w : World) (hr0 : Kd.C k41 w A0 l0.length l0) (hc0 : l0.length ≤ c0) (h : dragomanref04_Flat.f k l0 = some (r1, r2)) :
    Calls Try.prog 17 #[.slice A0 l0.length c0] w fun e w' => ∃ v0_ : Value, e = .returned (.tuple #[v0_, .int .i64 r2]) ∧ Kd.R k26 26 w' w.heap.size (fun _ => True) v0_ r1 ∧ Below w.heap.size w w' := by
  have hu26 := Try.underlying26
  have HR0 := Aside0.mk hr0
  have HC0 := Aside0.mk hc0
  clear hr0 hc0
  have HB := Aside0.mk (Below.refl w.heap.size w)
  have H : (dragomanref04_Flat.l0 k l0 ([] : List (S26)) (wrap64 ((l0.length : Int) - 1))) = some (r1, r2) := h
  clear h
  have H' := Aside0.mk H
  clear H
  go_enter Try.func17, Try.ntmps17
  go_wp2
  go_loopg [4, 5] k (fun kq v4 v5 w' => ∃ (x4_1 : List (S26)) (x5_1 : Int), v5 = .int .i64 x5_1 ∧ Aside0 (dragomanref04_Flat.l0 kq l0 x4_1 x5_1 = some (r1, r2)) ∧ Aside0 (kq ≤ k) ∧ Aside0 (Kd.R k26 26 w' w.heap.size (fun _ => True) v4 x4_1) ∧ Aside0 (Below w.heap.size w w'))
  case atStart => exact ⟨(([] : List (S26))), (wrap64 ((l0.length : Int) - 1)), (by first | rfl | (simp; done) | (simp [*]; done)), H', ⟨Nat.le_refl _⟩, ⟨by first | exact Kd.R_nil _ _ _ _ _ | exact Kd.N_nil _ _ _ _ _ | exact Kd.V_nil _ _ _ _ _ | exact Kd.Q_nil _ _ _ _ _ | exact Kd.S_nil _ _ _ _ _⟩, ⟨by repeat (first | (with_reducible first | exact HB.out | apply below_alloc | apply pw_below_drewN | apply below_drew1) | exact HB.out)⟩⟩
  case round =>
    clear H'
    try clear c1
    obtain ⟨x4_1, x5_1, rfl, HA, HK1, HO_4, HB⟩ := hrel
    cases gk with
    | zero => exact absurd HA.out (by simp [dragomanref04_Flat.l0])
    | succ k1 =>
      have H := HA.out
      clear HA
      simp only [dragomanref04_Flat.l0] at H
      by_cases c2 : x5_1 ≥ 0
      · rw [if_pos c2] at H
        have c2b0 : decide (0 ≤ x5_1) = true := decide_eq_true c2
        clear c2
        by_cases c3 : 0 ≤ x5_1
        · rw [if_pos c3] at H
          have c3b0 : decide (0 ≤ x5_1) = true := decide_eq_true c3
          clear c3
          by_cases c4 : x5_1 < (l0.length : Int)
          · rw [if_pos c4] at H
            have c4b0 : decide (x5_1 < (l0.length : Int)) = true := decide_eq_true c4
            clear c4
            replace H := Option.bind_eq_some_iff.mp H
            obtain ⟨t207, A50, H⟩ := H
            replace H : (if t207 = true then (dragomanref04_Flat.l1 k1 l0 x5_1 ([] : List (S26)) x4_1 (x4_1.length : Int) 0) else (dragomanref04_Flat.l0 k1 l0 x4_1 (wrap64 (x5_1 - 1)))) = some (r1, r2) := H
            have A5 := Aside0.mk A50
            clear A50
            by_cases c6 : t207 = true
            · subst c6
              have H1 : (dragomanref04_Flat.l1 k1 l0 x5_1 ([] : List (S26)) x4_1 (x4_1.length : Int) 0) = some (r1, r2) := by rw [if_pos rfl] at H; exact H
              clear H
              have H := H1
              clear H1
              have H' := Aside0.mk H
              clear H
              have p206 : 0 ≤ (x5_1 : Int) := of_decide_eq_true (by first | (with_reducible assumption) | assumption)
              have q206 : x5_1 < (l0.length : Int) := of_decide_eq_true (by first | (with_reducible assumption) | assumption)
              obtain ⟨ad206, e206, hx206_0, hx206_1, hx206_2, hx206_3, hx206_4⟩ := at_T41 HR0.out x5_1 p206 q206
              cases e206
              replace hx206_0 := (HB.out.cell (World.block_lt_of_cell? w _ hx206_0)).trans hx206_0
              replace hx206_1 := (HB.out.cell (World.block_lt_of_cell? w _ hx206_1)).trans hx206_1
              replace hx206_2 := (HB.out.cell (World.block_lt_of_cell? w _ hx206_2)).trans hx206_2
              replace hx206_3 := (HB.out.cell (World.block_lt_of_cell? w _ hx206_3)).trans hx206_3
              replace hx206_4 := (HB.out.cell (World.block_lt_of_cell? w _ hx206_4)).trans hx206_4
              replace p206 := eq_true p206
              replace q206 := eq_true q206
              go_wp2_with (first | ((with_reducible refine gate_callee (f := 20) rfl ?_); refine goesL_ (some 21) rfl rfl Try.func20 (by kernel_rfl) rfl #[.agg #[.int .u32 ((rd_T41 l0 x5_1).f1.f0.f0), .int .i64 ((rd_T41 l0 x5_1).f1.f0.f1), .int .i64 ((rd_T41 l0 x5_1).f1.f1), .int .i64 ((rd_T41 l0 x5_1).f1.f2)]] rfl (by (try simp only [List.map_toArray, List.map_cons, List.map_nil]); first | done | rfl | (simp only [List.length_drop, List.length_take]; rfl)) ?_; (with_reducible refine (dragomanref04_Right.calls k1 ((rd_T41 l0 x5_1).f1.f0.f0) ((rd_T41 l0 x5_1).f1.f0.f1) ((rd_T41 l0 x5_1).f1.f1) ((rd_T41 l0 x5_1).f1.f2) true _ A5.out).mono ?_); rintro e w7 ⟨rfl, hb⟩; refine ⟨_, rfl, ?_⟩; have n0_ := Aside0.mk (Kd.R_below (by (with_reducible repeat (first | apply Kd.R_alloc | apply Kd.R_drewN | apply Kd.R_drew)); exact HO_4.out) hb); have n1_ := Aside0.mk (below_step (by repeat (first | (with_reducible first | exact HB.out | apply below_alloc | apply pw_below_drewN | apply below_drew1) | exact HB.out)) hb); clear HO_4; clear HB; have HO_4 := n0_; have HB := n1_; clear n0_ n1_; (try clear hb); (try clear hb2); (try clear hk); (try clear hi); obtain ⟨Ao8, co8, eo8⟩ := Kd.R_slice HO_4.out; subst eo8))
              go_loopg [6, 25] k1 (fun kq v6 v25 w' => ∃ (x6_2 : List (S26)) (x25_2 : Int), v25 = .int .i64 x25_2 ∧ Aside0 (dragomanref04_Flat.l1 kq l0 x5_1 x6_2 x4_1 (x4_1.length : Int) x25_2 = some (r1, r2)) ∧ Aside0 (kq ≤ k1) ∧ Aside0 (Kd.R k26 26 w' w.heap.size (fun k_ => some k_ ≠ ((.slice Ao8 x4_1.length co8) : Value).ownBlock) v6 x6_2) ∧ Aside0 (Kd.R k26 26 w' w.heap.size (fun k_ => some k_ ≠ (v6 : Value).ownBlock) (.slice Ao8 x4_1.length co8) x4_1) ∧ Aside0 (Below w.heap.size w w'))
              case atStart => exact ⟨(([] : List (S26))), (0), (by first | rfl | (simp; done) | (simp [*]; done)), H', ⟨Nat.le_refl _⟩, ⟨by first | exact Kd.R_nil _ _ _ _ _ | exact Kd.N_nil _ _ _ _ _ | exact Kd.V_nil _ _ _ _ _ | exact Kd.Q_nil _ _ _ _ _ | exact Kd.S_nil _ _ _ _ _⟩, ⟨by (with_reducible repeat (first | apply Kd.R_alloc | apply Kd.R_drewN | apply Kd.R_drew)); exact Kd.R_mono HO_4.out (fun _ hk => (by simp [Value.ownBlock]))⟩, ⟨by repeat (first | (with_reducible first | exact HB.out | apply below_alloc | apply pw_below_drewN | apply below_drew1) | exact HB.out)⟩⟩
              case round =>
                clear H'
                try clear c1
                try clear c2
                try clear c2b0
                try clear p2
                try clear q2
                try clear hx2
                try clear c3
                try clear c3b0
                try clear c4
                try clear c4b0
                try clear c6
                try clear p6
                try clear hx206_0
                try clear hx206_1
                try clear hx206_2
                try clear hx206_3
                try clear hx206_4
                try clear p206
                try clear q206
                obtain ⟨x6_2, x25_2, rfl, HA, HK2, HO_6, HO_23, HB⟩ := hrel
                cases gk with
                | zero => exact absurd HA.out (by simp [dragomanref04_Flat.l1])
                | succ k2 =>
                  have H := HA.out
                  clear HA
                  simp only [dragomanref04_Flat.l1] at H
                  by_cases c9 : x25_2 < (x4_1.length : Int)
                  · rw [if_pos c9] at H
                    have c9b0 : decide (x25_2 < (x4_1.length : Int)) = true := decide_eq_true c9
                    clear c9
                    by_cases c10 : 0 ≤ x25_2
                    · rw [if_pos c10] at H
                      have c10b0 : decide (0 ≤ x25_2) = true := decide_eq_true c10
                      clear c10
                      by_cases c11 : x25_2 < (x4_1.length : Int)
                      · rw [if_pos c11] at H
                        have c11b0 : decide (x25_2 < (x4_1.length : Int)) = true := decide_eq_true c11
                        clear c11
                        by_cases c12 : 0 ≤ x5_1
                        · rw [if_pos c12] at H
                          have c12b0 : decide (0 ≤ x5_1) = true := decide_eq_true c12
                          clear c12
                          by_cases c13 : x5_1 < (l0.length : Int)
                          · rw [if_pos c13] at H
                            have c13b0 : decide (x5_1 < (l0.length : Int)) = true := decide_eq_true c13
                            clear c13
                            replace H := Option.bind_eq_some_iff.mp H
                            obtain ⟨t211, A140, H⟩ := H
                            replace H : (if x6_2.length + t211.length < 4398046511104 then (dragomanref04_Flat.l1 k2 l0 x5_1 (x6_2 ++ t211) x4_1 (x4_1.length : Int) (wrap64 (x25_2 + 1))) else (none)) = some (r1, r2) := H
                            have A14 := Aside0.mk A140
                            clear A140
                            by_cases c15 : x6_2.length + t211.length < 4398046511104
                            · rw [if_pos c15] at H
                              have LMc15 := Aside0.mk c15
                              clear c15
                              obtain ⟨y214, hy214⟩ : ∃ y_ : List (S26), y_ = (x6_2 ++ t211) := ⟨_, rfl⟩
                              replace H : (dragomanref04_Flat.l1 k2 l0 x5_1 y214 x4_1 (x4_1.length : Int) (wrap64 (x25_2 + 1))) = some (r1, r2) := by first | (rw [hy214]; with_reducible exact H) | (have H2_ := (Option.bind_some _ _).symm.trans H; rw [hy214]; with_reducible exact H2_) | (have H2_ := (Option.bind_some _ _).symm.trans H; with_reducible exact H2_) | with_reducible exact H | (rw [hy214]; exact H) | exact H
                              have Ny214 := Aside0.mk hy214
                              clear hy214
                              have H' := Aside0.mk H
                              clear H
                              have p208 : 0 ≤ (x25_2 : Int) := of_decide_eq_true (by first | (with_reducible assumption) | assumption)
                              have q208 : x25_2 < (x4_1.length : Int) := of_decide_eq_true (by first | (with_reducible assumption) | assumption)
                              obtain ⟨ad208, e208, hx208_0, hx208_1, hx208_2, hx208_3⟩ := at_T26 (Kd.R_reads' HO_23.out).2.2 x25_2 p208 q208
                              cases e208
                              replace p208 := eq_true p208
                              replace q208 := eq_true q208
                              try go_wp2_with (first | ((with_reducible refine gate_dst (N := 8) rfl ?_); refine box_event ?hg (N := 8) ?hd (cs := #[.int .u32 0, .int .i64 0, .int .i64 0, .int .i64 0]) (t := 26) ?hr ?_; (case hd => rfl); (case hg => rfl); (case hr => first | (go_simp; done) | (go_simp; rfl)); intro gb209 hg w16 hbox hb; have n0_ := Aside0.mk (Kd.R_below (Kd.R_elderB (by (with_reducible repeat (first | apply Kd.R_alloc | apply Kd.R_drewN | apply Kd.R_drew)); exact HO_6.out) gb209 (Nat.le_of_eq hg.symm)) hb); have n1_ := Aside0.mk (Kd.R_below (Kd.R_elderB (by (with_reducible repeat (first | apply Kd.R_alloc | apply Kd.R_drewN | apply Kd.R_drew)); exact HO_23.out) gb209 (Nat.le_of_eq hg.symm)) hb); have n2_ := Aside0.mk (below_step (by repeat (first | (with_reducible first | exact HB.out | apply below_alloc | apply pw_below_drewN | apply below_drew1) | exact HB.out)) hb); have n3_ := Aside0.mk (hbox); have n4_ := Aside0.mk ((by rw [hg]; exact (below_size (by repeat (first | (with_reducible first | exact HB.out | apply below_alloc | apply pw_below_drewN | apply below_drew1) | exact HB.out))) : w.heap.size ≤ gb209)); have n5_ := Aside0.mk ((by rw [hg]; exact (below_size (by repeat (first | (with_reducible first | exact HB.out | apply below_alloc | apply pw_below_drewN | apply below_drew1) | exact HB.out))) : w.heap.size ≤ gb209)); clear HO_6; clear HO_23; clear HB; have HO_6 := n0_; have HO_23 := n1_; have HB := n2_; have BK209 := n3_; have GW209 := n4_; have GE209 := n5_; clear n0_ n1_ n2_ n3_ n4_ n5_; clear hb hbox hg; have hcz17_0 : w16.cell? ⟨gb209, 0, none⟩ = some (.int .u32 0) := (blk_cell BK209.out 0).trans rfl; have hcz17_1 : w16.cell? ⟨gb209, 1, none⟩ = some (.int .i64 0) := (blk_cell BK209.out 1).trans rfl; have hcz17_2 : w16.cell? ⟨gb209, 2, none⟩ = some (.int .i64 0) := (blk_cell BK209.out 2).trans rfl; have hcz17_3 : w16.cell? ⟨gb209, 3, none⟩ = some (.int .i64 0) := (blk_cell BK209.out 3).trans rfl; have hfz17_0 := blk_frozen BK209.out 0; have hfz17_1 := blk_frozen BK209.out 1; have hfz17_2 := blk_frozen BK209.out 2; have hfz17_3 := blk_frozen BK209.out 3))
                              have n0_ : Aside0 (Kd.R k26 26 ((((w16.setCell ⟨gb209, 0, none⟩ (.int .u32 ((rd_T26 x4_1 x25_2).f0.f0))).setCell ⟨gb209, 1, none⟩ (.int .i64 ((rd_T26 x4_1 x25_2).f0.f1))).setCell ⟨gb209, 2, none⟩ (.int .i64 ((rd_T26 x4_1 x25_2).f1))).setCell ⟨gb209, 3, none⟩ (.int .i64 ((rd_T26 x4_1 x25_2).f2))) w.heap.size (fun k_ => some k_ ≠ (.slice (some ad208) x4_1.length co8 : Value).ownBlock ∧ k_ ≠ gb209) u6 x6_2) := ⟨by (with_reducible repeat (first | apply Kd.R_alloc | apply Kd.R_drewN | apply Kd.R_drew)); exact Kd.R_mono (Kd.R_far (p := ⟨gb209, 3, none⟩) (Kd.R_far (p := ⟨gb209, 2, none⟩) (Kd.R_far (p := ⟨gb209, 1, none⟩) (Kd.R_far (p := ⟨gb209, 0, none⟩) (Kd.R_mono HO_6.out (fun k_ hk => (⟨hk, hk.2⟩ : _ ∧ k_ ≠ gb209))) (fun _ hk => hk.2) (.int .u32 ((rd_T26 x4_1 x25_2).f0.f0))) (fun _ hk => hk.2) (.int .i64 ((rd_T26 x4_1 x25_2).f0.f1))) (fun _ hk => hk.2) (.int .i64 ((rd_T26 x4_1 x25_2).f1))) (fun _ hk => hk.2) (.int .i64 ((rd_T26 x4_1 x25_2).f2))) (fun _ hk => ⟨hk.1.1, hk.1.2⟩)⟩
                              have n1_ : Aside0 (Kd.R k26 26 ((((w16.setCell ⟨gb209, 0, none⟩ (.int .u32 ((rd_T26 x4_1 x25_2).f0.f0))).setCell ⟨gb209, 1, none⟩ (.int .i64 ((rd_T26 x4_1 x25_2).f0.f1))).setCell ⟨gb209, 2, none⟩ (.int .i64 ((rd_T26 x4_1 x25_2).f1))).setCell ⟨gb209, 3, none⟩ (.int .i64 ((rd_T26 x4_1 x25_2).f2))) w.heap.size (fun k_ => some k_ ≠ (u6 : Value).ownBlock ∧ k_ ≠ gb209) (.slice (some ad208) x4_1.length co8) x4_1) := ⟨by (with_reducible repeat (first | apply Kd.R_alloc | apply Kd.R_drewN | apply Kd.R_drew)); exact Kd.R_mono (Kd.R_far (p := ⟨gb209, 3, none⟩) (Kd.R_far (p := ⟨gb209, 2, none⟩) (Kd.R_far (p := ⟨gb209, 1, none⟩) (Kd.R_far (p := ⟨gb209, 0, none⟩) (Kd.R_mono HO_23.out (fun k_ hk => (⟨hk, hk.2⟩ : _ ∧ k_ ≠ gb209))) (fun _ hk => hk.2) (.int .u32 ((rd_T26 x4_1 x25_2).f0.f0))) (fun _ hk => hk.2) (.int .i64 ((rd_T26 x4_1 x25_2).f0.f1))) (fun _ hk => hk.2) (.int .i64 ((rd_T26 x4_1 x25_2).f1))) (fun _ hk => hk.2) (.int .i64 ((rd_T26 x4_1 x25_2).f2))) (fun _ hk => ⟨hk.1.1, hk.1.2⟩)⟩
                              have n2_ : Aside0 (((((w16.setCell ⟨gb209, 0, none⟩ (.int .u32 ((rd_T26 x4_1 x25_2).f0.f0))).setCell ⟨gb209, 1, none⟩ (.int .i64 ((rd_T26 x4_1 x25_2).f0.f1))).setCell ⟨gb209, 2, none⟩ (.int .i64 ((rd_T26 x4_1 x25_2).f1))).setCell ⟨gb209, 3, none⟩ (.int .i64 ((rd_T26 x4_1 x25_2).f2))).heap[gb209]? = some (.cells #[.int .u32 ((rd_T26 x4_1 x25_2).f0.f0), .int .i64 ((rd_T26 x4_1 x25_2).f0.f1), .int .i64 ((rd_T26 x4_1 x25_2).f1), .int .i64 ((rd_T26 x4_1 x25_2).f2)] 26 (0, 0))) := ⟨by (with_reducible repeat (first | refine blk_drewN ?_ _ | refine blk_drew ?_ | refine blk_alloc ?_ _)); refine blk_put (cs := #[.int .u32 ((rd_T26 x4_1 x25_2).f0.f0), .int .i64 ((rd_T26 x4_1 x25_2).f0.f1), .int .i64 ((rd_T26 x4_1 x25_2).f1), .int .i64 0]) ?_ 3 _ rfl; (with_reducible repeat (first | refine blk_drewN ?_ _ | refine blk_drew ?_ | refine blk_alloc ?_ _)); refine blk_put (cs := #[.int .u32 ((rd_T26 x4_1 x25_2).f0.f0), .int .i64 ((rd_T26 x4_1 x25_2).f0.f1), .int .i64 0, .int .i64 0]) ?_ 2 _ rfl; (with_reducible repeat (first | refine blk_drewN ?_ _ | refine blk_drew ?_ | refine blk_alloc ?_ _)); refine blk_put (cs := #[.int .u32 ((rd_T26 x4_1 x25_2).f0.f0), .int .i64 0, .int .i64 0, .int .i64 0]) ?_ 1 _ rfl; (with_reducible repeat (first | refine blk_drewN ?_ _ | refine blk_drew ?_ | refine blk_alloc ?_ _)); refine blk_put (cs := #[.int .u32 0, .int .i64 0, .int .i64 0, .int .i64 0]) ?_ 0 _ rfl; (with_reducible repeat (first | refine blk_drewN ?_ _ | refine blk_drew ?_ | refine blk_alloc ?_ _)); exact BK209.out⟩
                              have n3_ : Aside0 (Below w.heap.size w ((((w16.setCell ⟨gb209, 0, none⟩ (.int .u32 ((rd_T26 x4_1 x25_2).f0.f0))).setCell ⟨gb209, 1, none⟩ (.int .i64 ((rd_T26 x4_1 x25_2).f0.f1))).setCell ⟨gb209, 2, none⟩ (.int .i64 ((rd_T26 x4_1 x25_2).f1))).setCell ⟨gb209, 3, none⟩ (.int .i64 ((rd_T26 x4_1 x25_2).f2)))) := ⟨by repeat (first | (with_reducible first | exact HB.out | apply below_alloc | apply pw_below_drewN | apply below_drew1 | refine below_set ?_ GE209.out) | exact HB.out)⟩
                              (try clear HO_6)
                              (try clear HO_23)
                              (try clear BK209)
                              (try clear HB)
                              generalize ((((w16.setCell ⟨gb209, 0, none⟩ (.int .u32 ((rd_T26 x4_1 x25_2).f0.f0))).setCell ⟨gb209, 1, none⟩ (.int .i64 ((rd_T26 x4_1 x25_2).f0.f1))).setCell ⟨gb209, 2, none⟩ (.int .i64 ((rd_T26 x4_1 x25_2).f1))).setCell ⟨gb209, 3, none⟩ (.int .i64 ((rd_T26 x4_1 x25_2).f2))) = w18 at n0_ n1_ n2_ n3_ ⊢
                              have HO_6 := n0_
                              have HO_23 := n1_
                              have BK209 := n2_
                              have HB := n3_
                              clear n0_ n1_ n2_ n3_
                              have n0_ := Aside0.mk (Kd.R_drew HO_6.out)
                              have n1_ := Aside0.mk (Kd.R_drew HO_23.out)
                              have n2_ := Aside0.mk (blk_drew BK209.out)
                              have n3_ := Aside0.mk (below_drew1 HB.out)
                              clear HO_6
                              clear HO_23
                              clear BK209
                              clear HB
                              have HO_6 := n0_
                              have HO_23 := n1_
                              have BK209 := n2_
                              have HB := n3_
                              clear n0_ n1_ n2_ n3_
                              have p210 : 0 ≤ (x5_1 : Int) := of_decide_eq_true (by first | (with_reducible assumption) | assumption)
                              have q210 : x5_1 < (l0.length : Int) := of_decide_eq_true (by first | (with_reducible assumption) | assumption)
                              obtain ⟨ad210, e210, hx210_0, hx210_1, hx210_2, hx210_3, hx210_4⟩ := at_T41 HR0.out x5_1 p210 q210
                              have hw210_4 := hx210_4
                              have hw210_3 := hx210_3
                              have hw210_2 := hx210_2
                              have hw210_1 := hx210_1
                              have hw210_0 := hx210_0
                              obtain rfl : ad206 = ad210 := (by injection e210)
                              replace hx210_0 := (HB.out.cell (World.block_lt_of_cell? w _ hx210_0)).trans hx210_0
                              replace hx210_1 := (HB.out.cell (World.block_lt_of_cell? w _ hx210_1)).trans hx210_1
                              replace hx210_2 := (HB.out.cell (World.block_lt_of_cell? w _ hx210_2)).trans hx210_2
                              replace hx210_3 := (HB.out.cell (World.block_lt_of_cell? w _ hx210_3)).trans hx210_3
                              replace hx210_4 := (HB.out.cell (World.block_lt_of_cell? w _ hx210_4)).trans hx210_4
                              replace p210 := eq_true p210
                              replace q210 := eq_true q210
                              refine start_ (n := 10) (S := fun w' => w'.cell? ⟨gb209, 0, none⟩ = some (.int .u32 ((rd_T26 x4_1 x25_2).f0.f0)) ∧ w'.cell? ⟨gb209, 1, none⟩ = some (.int .i64 ((rd_T26 x4_1 x25_2).f0.f1)) ∧ w'.cell? ⟨gb209, 2, none⟩ = some (.int .i64 ((rd_T26 x4_1 x25_2).f1)) ∧ w'.cell? ⟨gb209, 3, none⟩ = some (.int .i64 ((rd_T26 x4_1 x25_2).f2)) ∧ w'.cell? (ad206.add ((x5_1).toNat * 5)) = some (.bool ((rd_T41 l0 x5_1).f0)) ∧ w'.cell? ⟨(ad206.add ((x5_1).toNat * 5)).block, (ad206.add ((x5_1).toNat * 5)).off + 1, none⟩ = some (.int .u32 ((rd_T41 l0 x5_1).f1.f0.f0)) ∧ w'.cell? ⟨(ad206.add ((x5_1).toNat * 5)).block, (ad206.add ((x5_1).toNat * 5)).off + 2, none⟩ = some (.int .i64 ((rd_T41 l0 x5_1).f1.f0.f1)) ∧ w'.cell? ⟨(ad206.add ((x5_1).toNat * 5)).block, (ad206.add ((x5_1).toNat * 5)).off + 3, none⟩ = some (.int .i64 ((rd_T41 l0 x5_1).f1.f1)) ∧ w'.cell? ⟨(ad206.add ((x5_1).toNat * 5)).block, (ad206.add ((x5_1).toNat * 5)).off + 4, none⟩ = some (.int .i64 ((rd_T41 l0 x5_1).f1.f2))) (ds := []) #[false, false, false, false, false, false, false, false, false, false] (by kernel_rfl) rfl rfl ⟨(blk_cell BK209.out 0).trans rfl, (blk_cell BK209.out 1).trans rfl, (blk_cell BK209.out 2).trans rfl, (blk_cell BK209.out 3).trans rfl, ((HB.out.cell (World.block_lt_of_cell? w _ hw210_0)).trans hw210_0), ((HB.out.cell (World.block_lt_of_cell? w _ hw210_1)).trans hw210_1), ((HB.out.cell (World.block_lt_of_cell? w _ hw210_2)).trans hw210_2), ((HB.out.cell (World.block_lt_of_cell? w _ hw210_3)).trans hw210_3), ((HB.out.cell (World.block_lt_of_cell? w _ hw210_4)).trans hw210_4)⟩ (fun hHeld => ?_); refine with_tabW dragomanref04_Flat.tab10 dragomanref04_Flat.bits10 (fun HT_ HW_ => ?_)
                              generalize w18.drew = w19 at HO_6 HO_23 BK209 HB hx210_0 hx210_1 hx210_2 hx210_3 hx210_4 hHeld ⊢
                              refine pure_ (i := 0) (N := some 29) (v := ?_) (a' := ?_) #[true, false, false, false, false, false, false, false, false, false] rfl rfl (any_of HT_.out (by kernel_rfl)) (fun _ _ _ h => h) (Or.inl ⟨by rfl, ?_⟩) ?_ ?_
                              rotate_left
                              · intro w'
                                go_simp
                                with_reducible rfl
                              rotate_left
                              · simp only [Act.put, List.setIfInBounds_toArray, List.set_cons_zero, List.set_cons_succ, i64_w, i32_w]
                                rfl
                              refine pure_ (i := 2) (N := some 31) (v := ?_) (a' := ?_) #[true, false, true, false, false, false, false, false, false, false] rfl rfl (any_of HT_.out (by kernel_rfl)) (fun _ _ _ h => h) (Or.inl ⟨by rfl, ?_⟩) ?_ ?_
                              rotate_left
                              · intro w'
                                go_simp
                                with_reducible rfl
                              rotate_left
                              · simp only [Act.put, List.setIfInBounds_toArray, List.set_cons_zero, List.set_cons_succ, i64_w, i32_w]
                                rfl
                              refine pure_ (i := 3) (N := some 32) (v := ?_) (a' := ?_) #[true, false, true, true, false, false, false, false, false, false] rfl rfl (any_of HT_.out (by kernel_rfl)) (fun _ _ _ h => h) (Or.inl ⟨by rfl, ?_⟩) ?_ ?_
                              rotate_left
                              · intro w'
                                go_simp
                                with_reducible rfl
                              rotate_left
                              · simp only [Act.put, List.setIfInBounds_toArray, List.set_cons_zero, List.set_cons_succ, i64_w, i32_w]
                                rfl
                              refine pure_ (i := 4) (N := some 33) (v := ?_) (a' := ?_) #[true, false, true, true, true, false, false, false, false, false] rfl rfl (any_of HT_.out (by kernel_rfl)) (fun _ _ _ h => h) (Or.inl ⟨by rfl, ?_⟩) ?_ ?_
                              rotate_left
                              · intro w'
                                go_simp
                                with_reducible rfl
                              rotate_left
                              · simp only [Act.put, List.setIfInBounds_toArray, List.set_cons_zero, List.set_cons_succ, i64_w, i32_w]
                                rfl
                              refine pure_ (i := 5) (N := some 34) (v := ?_) (a' := ?_) #[true, false, true, true, true, true, false, false, false, false] rfl rfl (any_of HT_.out (by kernel_rfl)) (fun _ _ _ h => h) (Or.inl ⟨by rfl, ?_⟩) ?_ ?_
                              rotate_left
                              · intro w'
                                go_simp
                                with_reducible rfl
                              rotate_left
                              · simp only [Act.put, List.setIfInBounds_toArray, List.set_cons_zero, List.set_cons_succ, i64_w, i32_w]
                                rfl
                              refine take_ (i := 1) (N := some 30) (v := ?_) (a' := ?_) #[true, true, true, true, true, true, false, false, false, false] rfl rfl (take_ofW HT_.out HW_.out (by kernel_rfl)) (fun _ _ _ h => h) (Or.inl ⟨by rfl, ?_⟩) hHeld ?_ ?_
                              rotate_left
                              · rintro w' ⟨s0, s1, s2, s3, s4, s5, s6, s7, s8⟩
                                go_simp
                                with_reducible rfl
                              rotate_left
                              · simp only [Act.put, List.setIfInBounds_toArray, List.set_cons_zero, List.set_cons_succ, i64_w, i32_w]
                                rfl
                              refine take_ (i := 6) (N := some 35) (v := ?_) (a' := ?_) #[true, true, true, true, true, true, true, false, false, false] rfl rfl (take_ofW HT_.out HW_.out (by kernel_rfl)) (fun _ _ _ h => h) (Or.inl ⟨by rfl, ?_⟩) hHeld ?_ ?_
                              rotate_left
                              · rintro w' ⟨s0, s1, s2, s3, s4, s5, s6, s7, s8⟩
                                go_simp
                                with_reducible rfl
                              rotate_left
                              · simp only [Act.put, List.setIfInBounds_toArray, List.set_cons_zero, List.set_cons_succ, i64_w, i32_w]
                                rfl
                              refine one_ (i := 7) (N := some 36) #[true, true, true, true, true, true, true, true, false, false] rfl rfl (one_of HT_.out (by kernel_rfl)) (by decide) (fun K hK => ?_)
                              refine goes_ Try.func15 (by kernel_rfl) rfl #[.agg #[.int .u32 ((rd_T26 x4_1 x25_2).f0.f0), .int .i64 ((rd_T26 x4_1 x25_2).f0.f1), .int .i64 ((rd_T26 x4_1 x25_2).f1), .int .i64 ((rd_T26 x4_1 x25_2).f2)], .agg #[.int .u32 ((rd_T41 l0 x5_1).f1.f0.f0), .int .i64 ((rd_T41 l0 x5_1).f1.f0.f1), .int .i64 ((rd_T41 l0 x5_1).f1.f1), .int .i64 ((rd_T41 l0 x5_1).f1.f2)]] (by rfl) rfl rfl (by (try simp only [List.map_toArray, List.map_cons, List.map_nil]); first | done | rfl | (simp only [List.length_drop, List.length_take]; rfl)) ?_
                              with_reducible refine (dragomanref04_Minus.calls k2 ((rd_T26 x4_1 x25_2).f0.f0) ((rd_T26 x4_1 x25_2).f0.f1) ((rd_T26 x4_1 x25_2).f1) ((rd_T26 x4_1 x25_2).f2) ((rd_T41 l0 x5_1).f1.f0.f0) ((rd_T41 l0 x5_1).f1.f0.f1) ((rd_T41 l0 x5_1).f1.f1) ((rd_T41 l0 x5_1).f1.f2) t211 _ A14.out).mono ?_
                              rintro e w20 ⟨v212, rfl, ho0, hb⟩
                              refine ⟨_, rfl, ?_⟩
                              have n0_ := Aside0.mk (Kd.R_elder' (by (with_reducible repeat (first | apply Kd.R_alloc | apply Kd.R_drewN | apply Kd.R_drew)); exact HO_6.out) (Kd.R_base ho0) hb)
                              have n1_ := Aside0.mk (Kd.R_elder' (by (with_reducible repeat (first | apply Kd.R_alloc | apply Kd.R_drewN | apply Kd.R_drew)); exact HO_23.out) (Kd.R_base ho0) hb)
                              have n2_ := Aside0.mk (Kd.R_lower (Kd.R_newB (Kd.R_new' (Kd.R_new' ho0 (Kd.R_lt (by (with_reducible repeat (first | apply Kd.R_alloc | apply Kd.R_drewN | apply Kd.R_drew)); exact HO_6.out))) (Kd.R_lt (by (with_reducible repeat (first | apply Kd.R_alloc | apply Kd.R_drewN | apply Kd.R_drew)); exact HO_23.out))) (g := gb209) (o := .cells #[.int .u32 ((rd_T26 x4_1 x25_2).f0.f0), .int .i64 ((rd_T26 x4_1 x25_2).f0.f1), .int .i64 ((rd_T26 x4_1 x25_2).f1), .int .i64 ((rd_T26 x4_1 x25_2).f2)] 26 (0, 0)) (by (with_reducible repeat (first | refine blk_drewN ?_ _ | refine blk_drew ?_ | refine blk_alloc ?_ _)); exact BK209.out)) (below_size (by repeat (first | (with_reducible first | exact HB.out | apply below_alloc | apply pw_below_drewN | apply below_drew1 | refine below_set ?_ GE209.out) | exact HB.out))))
                              have n3_ := Aside0.mk (blk_below (g := gb209) (o := .cells #[.int .u32 ((rd_T26 x4_1 x25_2).f0.f0), .int .i64 ((rd_T26 x4_1 x25_2).f0.f1), .int .i64 ((rd_T26 x4_1 x25_2).f1), .int .i64 ((rd_T26 x4_1 x25_2).f2)] 26 (0, 0)) (by (with_reducible repeat (first | refine blk_drewN ?_ _ | refine blk_drew ?_ | refine blk_alloc ?_ _)); exact BK209.out) hb)
                              have n4_ := Aside0.mk (below_step (by repeat (first | (with_reducible first | exact HB.out | apply below_alloc | apply pw_below_drewN | apply below_drew1 | refine below_set ?_ GE209.out) | exact HB.out)) hb)
                              clear HO_6
                              clear HO_23
                              clear BK209
                              clear HB
                              have HO_6 := n0_
                              have HO_23 := n1_
                              have HO213 := n2_
                              have BK209 := n3_
                              have HB := n4_
                              clear n0_ n1_ n2_ n3_ n4_
                              (try clear hb)
                              (try clear hb2)
                              (try clear hk)
                              (try clear hi)
                              (try clear ho0)
                              obtain ⟨Ao22, co22, eo22⟩ := Kd.R_slice HO213.out
                              (first | subst eo22 | (injection eo22 with f1_ f2_ f3_; have f4_ := f1_.symm; have f5_ := f3_.symm; clear f1_ f2_ f3_; subst f4_; subst f5_))
                              refine hK.out _ _ ⟨(blk_cell BK209.out 0).trans rfl, (blk_cell BK209.out 1).trans rfl, (blk_cell BK209.out 2).trans rfl, (blk_cell BK209.out 3).trans rfl, ((HB.out.cell (World.block_lt_of_cell? w _ hw210_0)).trans hw210_0), ((HB.out.cell (World.block_lt_of_cell? w _ hw210_1)).trans hw210_1), ((HB.out.cell (World.block_lt_of_cell? w _ hw210_2)).trans hw210_2), ((HB.out.cell (World.block_lt_of_cell? w _ hw210_3)).trans hw210_3), ((HB.out.cell (World.block_lt_of_cell? w _ hw210_4)).trans hw210_4)⟩ (fun hHeld => ?_)
                              clear hK K
                              refine norm_ (a' := ?_) ?_ ?_
                              rotate_left
                              · show Act.put _ (some 36) _ = _
                                simp only [Act.put, List.setIfInBounds_toArray, List.set_cons_zero, List.set_cons_succ, i64_w, i32_w]
                                rfl
                              refine one_ (i := 8) (N := some 37) #[true, true, true, true, true, true, true, true, true, false] rfl rfl (one_of HT_.out (by kernel_rfl)) (by decide) (fun K hK => ?_)
                              refine Kd.R_append_rows_step k26 (w0 := w) w.heap.size (by rfl) (.tmp 29) (.tmp 36) 31 26 (.agg #[(.int .u32 0), (.int .i64 0), (.int .i64 0), (.int .i64 0)]) 32 rfl Try.underlying31 info26 rfl (by decide) (by omega) u6 x6_2 t211 _ _ _ (fun k_ => some k_ ≠ (.slice (some ad208) x4_1.length co8 : Value).ownBlock ∧ some k_ ≠ (.slice Ao22 t211.length co22 : Value).ownBlock ∧ k_ ≠ gb209) (fun _ => False) rfl rfl ?aO ?aR (fun _ _ h => h) (fun _ h => h.elim) ?aF ?aB ?aS ?aL ?_
                              (case aR => repeat (first | exact (Kd.R_reads' HO213.out).2.2 | (with_reducible refine Kd.C_alloc ?_ _) | (with_reducible refine Kd.C_drewN ?_ _) | (with_reducible refine Kd.C_drew ?_)))
                              (case aB => exact (by repeat (first | (with_reducible first | exact HB.out | apply below_alloc | apply pw_below_drewN | apply below_drew1 | refine below_set ?_ GE209.out) | exact HB.out)))
                              (case aF => exact (fun k_ hk => ⟨Kd.fresh' (Kd.R_lt (by (with_reducible repeat (first | apply Kd.R_alloc | apply Kd.R_drewN | apply Kd.R_drew)); exact HO_23.out)) k_ hk, Kd.fresh' (Kd.R_lt (by (with_reducible repeat (first | apply Kd.R_alloc | apply Kd.R_drewN | apply Kd.R_drew)); exact HO213.out)) k_ hk, Kd.freshB (g := gb209) (o := .cells #[.int .u32 ((rd_T26 x4_1 x25_2).f0.f0), .int .i64 ((rd_T26 x4_1 x25_2).f0.f1), .int .i64 ((rd_T26 x4_1 x25_2).f1), .int .i64 ((rd_T26 x4_1 x25_2).f2)] 26 (0, 0)) (by (with_reducible repeat (first | refine blk_drewN ?_ _ | refine blk_drew ?_ | refine blk_alloc ?_ _)); exact BK209.out) k_ hk⟩))
                              (case aO => exact (by (with_reducible repeat (first | apply Kd.R_alloc | apply Kd.R_drewN | apply Kd.R_drew)); exact Kd.R_mono HO_6.out (fun _ hk => ⟨hk.1.1, ⟨hk.2, hk.1.2⟩⟩)))
                              (case aS => exact (below_size (by repeat (first | (with_reducible first | exact HB.out | apply below_alloc | apply pw_below_drewN | apply below_drew1 | refine below_set ?_ GE209.out) | exact HB.out))))
                              (case aL => have := LMc15.out; omega)
                              intro v215 w21 ho hb hg hat
                              rw [← Ny214.out] at ho
                              have n0_ := Aside0.mk (Kd.R_after (ok := (fun k_ => some k_ ≠ (.slice Ao22 t211.length co22 : Value).ownBlock ∧ k_ ≠ gb209)) (by (with_reducible repeat (first | apply Kd.R_alloc | apply Kd.R_drewN | apply Kd.R_drew)); exact Kd.R_mono HO_23.out (fun _ hk => ⟨⟨hk.2, hk.1.2⟩, hk.1.1⟩)) hg hat)
                              have n1_ := Aside0.mk (blk_grown (g := gb209) (o := .cells #[.int .u32 ((rd_T26 x4_1 x25_2).f0.f0), .int .i64 ((rd_T26 x4_1 x25_2).f0.f1), .int .i64 ((rd_T26 x4_1 x25_2).f1), .int .i64 ((rd_T26 x4_1 x25_2).f2)] 26 (0, 0)) (by (with_reducible repeat (first | refine blk_drewN ?_ _ | refine blk_drew ?_ | refine blk_alloc ?_ _)); exact BK209.out) hg (Kd.R_away HO_6.out (fun _ hk => hk.1.2)))
                              have n2_ := Aside0.mk (Kd.R_after (ok := (fun k_ => some k_ ≠ (.slice (some ad208) x4_1.length co8 : Value).ownBlock ∧ k_ ≠ gb209)) (by (with_reducible repeat (first | apply Kd.R_alloc | apply Kd.R_drewN | apply Kd.R_drew)); exact Kd.R_mono HO213.out (fun _ hk => ⟨⟨hk.1.2, hk.2⟩, hk.1.1.2⟩)) hg hat)
                              have n3_ := Aside0.mk (hb)
                              have n4_ := Aside0.mk (ho)
                              clear HO_23
                              clear BK209
                              clear HO213
                              clear HB
                              clear HO_6
                              have HO_23 := n0_
                              have BK209 := n1_
                              have HO213 := n2_
                              have HB := n3_
                              have HO216 := n4_
                              clear n0_ n1_ n2_ n3_ n4_
                              clear ho hb hg hat
                              refine hK.out _ _ ⟨(blk_cell BK209.out 0).trans rfl, (blk_cell BK209.out 1).trans rfl, (blk_cell BK209.out 2).trans rfl, (blk_cell BK209.out 3).trans rfl, ((HB.out.cell (World.block_lt_of_cell? w _ hw210_0)).trans hw210_0), ((HB.out.cell (World.block_lt_of_cell? w _ hw210_1)).trans hw210_1), ((HB.out.cell (World.block_lt_of_cell? w _ hw210_2)).trans hw210_2), ((HB.out.cell (World.block_lt_of_cell? w _ hw210_3)).trans hw210_3), ((HB.out.cell (World.block_lt_of_cell? w _ hw210_4)).trans hw210_4)⟩ (fun hHeld => ?_)
                              clear hK K
                              refine norm_ (a' := ?_) ?_ ?_
                              rotate_left
                              · show Act.put _ (some 37) _ = _
                                simp only [Act.put, List.setIfInBounds_toArray, List.set_cons_zero, List.set_cons_succ, i64_w, i32_w]
                                rfl
                              refine pure_ (i := 9) (N := some 6) (v := ?_) (a' := ?_) #[true, true, true, true, true, true, true, true, true, true] rfl rfl (any_of HT_.out (by kernel_rfl)) (fun _ _ _ h => h) (Or.inl ⟨by rfl, ?_⟩) ?_ ?_
                              rotate_left
                              · intro w'
                                go_simp
                                with_reducible rfl
                              rotate_left
                              · simp only [Act.put, List.setIfInBounds_toArray, List.set_cons_zero, List.set_cons_succ, i64_w, i32_w]
                                rfl
                              refine done_ (done_of HT_.out (by kernel_rfl)) ?_
                              try go_wp2
                              go_roundg k2
                              case measure => have := HK1.out; have := HK2.out; omega
                              case rel => exact ⟨(y214), (wrap64 (x25_2 + 1)), (by first | rfl | (simp; done) | (simp [*]; done)), H', ⟨by have := HK1.out; have := HK2.out; omega⟩, ⟨by (with_reducible repeat (first | apply Kd.R_alloc | apply Kd.R_drewN | apply Kd.R_drew)); exact Kd.R_mono HO216.out (fun _ hk => hk.1)⟩, ⟨by (with_reducible repeat (first | apply Kd.R_alloc | apply Kd.R_drewN | apply Kd.R_drew)); exact Kd.R_mono HO_23.out (fun _ hk => hk.2)⟩, ⟨by repeat (first | (with_reducible first | exact HB.out | apply below_alloc | apply pw_below_drewN | apply below_drew1 | refine below_set ?_ GE209.out) | exact HB.out)⟩⟩
                            · rw [if_neg c15] at H
                              exact absurd H (by simp)
                          · rw [if_neg c13] at H
                            exact absurd H (by simp)
                        · rw [if_neg c12] at H
                          exact absurd H (by simp)
                      · rw [if_neg c11] at H
                        exact absurd H (by simp)
                    · rw [if_neg c10] at H
                      exact absurd H (by simp)
                  · rw [if_neg c9] at H
                    have c9b0 : decide (x25_2 < (x4_1.length : Int)) = false := decide_eq_false c9
                    clear c9
                    by_cases c23 : 0 ≤ x5_1
                    · rw [if_pos c23] at H
                      have c23b0 : decide (0 ≤ x5_1) = true := decide_eq_true c23
                      clear c23
                      by_cases c24 : x5_1 < (l0.length : Int)
                      · rw [if_pos c24] at H
                        have c24b0 : decide (x5_1 < (l0.length : Int)) = true := decide_eq_true c24
                        clear c24
                        obtain ⟨bq25, hbq25⟩ : ∃ b_ : Bool, b_ = ((rd_T41 l0 x5_1).f0) := ⟨_, rfl⟩
                        replace H : (if (bq25 = true) then (if (x6_2.length : Int) > 1024 then (some (([] : List (S26)), 6)) else (dragomanref04_Flat.l0 k2 l0 x6_2 (wrap64 (x5_1 - 1)))) else (if x6_2.length < 4398046511104 then ((some (x6_2 ++ [(⟨(⟨(rd_T41 l0 x5_1).f1.f0.f0, (rd_T41 l0 x5_1).f1.f0.f1⟩ : S24), (rd_T41 l0 x5_1).f1.f1, (rd_T41 l0 x5_1).f1.f2⟩ : S26)] : List (S26))).bind fun y219 => (if (y219.length : Int) > 1024 then (some (([] : List (S26)), 6)) else (dragomanref04_Flat.l0 k2 l0 y219 (wrap64 (x5_1 - 1))))) else (none))) = some (r1, r2) := by rw [← hbq25] at H; exact H
                        have Nbq25 := Aside0.mk hbq25
                        clear hbq25
                        by_cases c26 : (bq25 = true)
                        · subst c26
                          have H1 : (if (x6_2.length : Int) > 1024 then (some (([] : List (S26)), 6)) else (dragomanref04_Flat.l0 k2 l0 x6_2 (wrap64 (x5_1 - 1)))) = some (r1, r2) := by rw [if_pos rfl] at H; exact H
                          clear H
                          have H := H1
                          clear H1
                          by_cases c27 : (x6_2.length : Int) > 1024
                          · rw [if_pos c27] at H
                            have c27b0 : decide (1024 < (x6_2.length : Int)) = true := decide_eq_true c27
                            have c27b1 : decide (1024 < x6_2.length) = true := decide_eq_true (by omega)
                            clear c27
                            simp only [Option.some.injEq, Prod.mk.injEq] at H
                            obtain ⟨rfl, rfl⟩ := H
                            have p217 : 0 ≤ (x5_1 : Int) := of_decide_eq_true (by first | (with_reducible assumption) | assumption)
                            have q217 : x5_1 < (l0.length : Int) := of_decide_eq_true (by first | (with_reducible assumption) | assumption)
                            obtain ⟨ad217, e217, hx217_0, hx217_1, hx217_2, hx217_3, hx217_4⟩ := at_T41 HR0.out x5_1 p217 q217
                            (try rw [← Nbq25.out] at hx217_0)
                            obtain rfl : ad206 = ad217 := (by injection e217)
                            replace hx217_0 := (HB.out.cell (World.block_lt_of_cell? w _ hx217_0)).trans hx217_0
                            replace hx217_1 := (HB.out.cell (World.block_lt_of_cell? w _ hx217_1)).trans hx217_1
                            replace hx217_2 := (HB.out.cell (World.block_lt_of_cell? w _ hx217_2)).trans hx217_2
                            replace hx217_3 := (HB.out.cell (World.block_lt_of_cell? w _ hx217_3)).trans hx217_3
                            replace hx217_4 := (HB.out.cell (World.block_lt_of_cell? w _ hx217_4)).trans hx217_4
                            replace p217 := eq_true p217
                            replace q217 := eq_true q217
                            obtain ⟨Ao28, co28, eo28⟩ := Kd.R_slice HO_6.out
                            subst eo28
                            go_wp2
                            go_ret2
                            exact ⟨_, by first | rfl | (simp [errW_none, errW_some] <;> rfl) | (simp [*, errW_none, errW_some] <;> rfl), by first | exact Kd.R_nil _ _ _ _ _ | exact Kd.N_nil _ _ _ _ _ | exact Kd.V_nil _ _ _ _ _ | exact Kd.Q_nil _ _ _ _ _ | exact Kd.S_nil _ _ _ _ _, by repeat (first | (with_reducible first | exact HB.out | apply below_alloc | apply pw_below_drewN | apply below_drew1) | exact HB.out)⟩
                          · rw [if_neg c27] at H
                            have c27b0 : decide (1024 < (x6_2.length : Int)) = false := decide_eq_false c27
                            have c27b1 : decide (1024 < x6_2.length) = false := decide_eq_false (by omega)
                            clear c27
                            have H' := Aside0.mk H
                            clear H
                            have p217 : 0 ≤ (x5_1 : Int) := of_decide_eq_true (by first | (with_reducible assumption) | assumption)
                            have q217 : x5_1 < (l0.length : Int) := of_decide_eq_true (by first | (with_reducible assumption) | assumption)
                            obtain ⟨ad217, e217, hx217_0, hx217_1, hx217_2, hx217_3, hx217_4⟩ := at_T41 HR0.out x5_1 p217 q217
                            (try rw [← Nbq25.out] at hx217_0)
                            obtain rfl : ad206 = ad217 := (by injection e217)
                            replace hx217_0 := (HB.out.cell (World.block_lt_of_cell? w _ hx217_0)).trans hx217_0
                            replace hx217_1 := (HB.out.cell (World.block_lt_of_cell? w _ hx217_1)).trans hx217_1
                            replace hx217_2 := (HB.out.cell (World.block_lt_of_cell? w _ hx217_2)).trans hx217_2
                            replace hx217_3 := (HB.out.cell (World.block_lt_of_cell? w _ hx217_3)).trans hx217_3
                            replace hx217_4 := (HB.out.cell (World.block_lt_of_cell? w _ hx217_4)).trans hx217_4
                            replace p217 := eq_true p217
                            replace q217 := eq_true q217
                            obtain ⟨Ao29, co29, eo29⟩ := Kd.R_slice HO_6.out
                            subst eo29
                            go_wp2
                            go_roundg k2
                            case measure => have := HK1.out; have := HK2.out; omega
                            case rel => exact ⟨(x6_2), (wrap64 (x5_1 - 1)), (by first | rfl | (simp; done) | (simp [*]; done)), H', ⟨by have := HK1.out; have := HK2.out; omega⟩, ⟨by (with_reducible repeat (first | apply Kd.R_alloc | apply Kd.R_drewN | apply Kd.R_drew)); exact Kd.R_mono HO_6.out (fun _ hk => trivial)⟩, ⟨by repeat (first | (with_reducible first | exact HB.out | apply below_alloc | apply pw_below_drewN | apply below_drew1) | exact HB.out)⟩⟩
                        · replace c26 := Bool.eq_false_iff.mpr c26
                          subst c26
                          have H1 : (if x6_2.length < 4398046511104 then ((some (x6_2 ++ [(⟨(⟨(rd_T41 l0 x5_1).f1.f0.f0, (rd_T41 l0 x5_1).f1.f0.f1⟩ : S24), (rd_T41 l0 x5_1).f1.f1, (rd_T41 l0 x5_1).f1.f2⟩ : S26)] : List (S26))).bind fun y219 => (if (y219.length : Int) > 1024 then (some (([] : List (S26)), 6)) else (dragomanref04_Flat.l0 k2 l0 y219 (wrap64 (x5_1 - 1))))) else (none)) = some (r1, r2) := by rw [if_neg (show ¬ (false = true) by decide)] at H; exact H
                          clear H
                          have H := H1
                          clear H1
                          by_cases c30 : x6_2.length < 4398046511104
                          · rw [if_pos c30] at H
                            have LMc30 := Aside0.mk c30
                            clear c30
                            obtain ⟨y219, hy219⟩ : ∃ y_ : List (S26), y_ = (x6_2 ++ [(⟨(⟨(rd_T41 l0 x5_1).f1.f0.f0, (rd_T41 l0 x5_1).f1.f0.f1⟩ : S24), (rd_T41 l0 x5_1).f1.f1, (rd_T41 l0 x5_1).f1.f2⟩ : S26)]) := ⟨_, rfl⟩
                            replace H : (if (y219.length : Int) > 1024 then (some (([] : List (S26)), 6)) else (dragomanref04_Flat.l0 k2 l0 y219 (wrap64 (x5_1 - 1)))) = some (r1, r2) := by first | (rw [hy219]; with_reducible exact H) | (have H2_ := (Option.bind_some _ _).symm.trans H; rw [hy219]; with_reducible exact H2_) | (have H2_ := (Option.bind_some _ _).symm.trans H; with_reducible exact H2_) | with_reducible exact H | (rw [hy219]; exact H) | exact H
                            have Ny219 := Aside0.mk hy219
                            clear hy219
                            by_cases c31 : (y219.length : Int) > 1024
                            · rw [if_pos c31] at H
                              have c31b0 : decide (1024 < (y219.length : Int)) = true := decide_eq_true c31
                              have c31b1 : decide (1024 < y219.length) = true := decide_eq_true (by omega)
                              clear c31
                              simp only [Option.some.injEq, Prod.mk.injEq] at H
                              obtain ⟨rfl, rfl⟩ := H
                              have p217 : 0 ≤ (x5_1 : Int) := of_decide_eq_true (by first | (with_reducible assumption) | assumption)
                              have q217 : x5_1 < (l0.length : Int) := of_decide_eq_true (by first | (with_reducible assumption) | assumption)
                              obtain ⟨ad217, e217, hx217_0, hx217_1, hx217_2, hx217_3, hx217_4⟩ := at_T41 HR0.out x5_1 p217 q217
                              (try rw [← Nbq25.out] at hx217_0)
                              obtain rfl : ad206 = ad217 := (by injection e217)
                              replace hx217_0 := (HB.out.cell (World.block_lt_of_cell? w _ hx217_0)).trans hx217_0
                              replace hx217_1 := (HB.out.cell (World.block_lt_of_cell? w _ hx217_1)).trans hx217_1
                              replace hx217_2 := (HB.out.cell (World.block_lt_of_cell? w _ hx217_2)).trans hx217_2
                              replace hx217_3 := (HB.out.cell (World.block_lt_of_cell? w _ hx217_3)).trans hx217_3
                              replace hx217_4 := (HB.out.cell (World.block_lt_of_cell? w _ hx217_4)).trans hx217_4
                              replace p217 := eq_true p217
                              replace q217 := eq_true q217
                              have p218 : 0 ≤ (x5_1 : Int) := of_decide_eq_true (by first | (with_reducible assumption) | assumption)
                              have q218 : x5_1 < (l0.length : Int) := of_decide_eq_true (by first | (with_reducible assumption) | assumption)
                              obtain ⟨ad218, e218, hx218_0, hx218_1, hx218_2, hx218_3, hx218_4⟩ := at_T41 HR0.out x5_1 p218 q218
                              (try rw [← Nbq25.out] at hx218_0)
                              obtain rfl : ad206 = ad218 := (by injection e218)
                              replace hx218_0 := (HB.out.cell (World.block_lt_of_cell? w _ hx218_0)).trans hx218_0
                              replace hx218_1 := (HB.out.cell (World.block_lt_of_cell? w _ hx218_1)).trans hx218_1
                              replace hx218_2 := (HB.out.cell (World.block_lt_of_cell? w _ hx218_2)).trans hx218_2
                              replace hx218_3 := (HB.out.cell (World.block_lt_of_cell? w _ hx218_3)).trans hx218_3
                              replace hx218_4 := (HB.out.cell (World.block_lt_of_cell? w _ hx218_4)).trans hx218_4
                              replace p218 := eq_true p218
                              replace q218 := eq_true q218
                              go_wp2_with (first | ((with_reducible refine gate_builtin (b := .append) (xs := #[.tmp 45, .tmp 51]) rfl ?_); at_builtin; refine Kd.R_append k26 (w0 := w) w.heap.size rfl (.tmp 45) (.tmp 51) 31 26 (.agg #[(.int .u32 0), (.int .i64 0), (.int .i64 0), (.int .i64 0)]) 32 rfl Try.underlying31 info26 rfl (by decide) (by omega) u6 x6_2 (⟨(⟨(rd_T41 l0 x5_1).f1.f0.f0, (rd_T41 l0 x5_1).f1.f0.f1⟩ : S24), (rd_T41 l0 x5_1).f1.f1, (rd_T41 l0 x5_1).f1.f2⟩ : S26) [.int .u32 ((rd_T41 l0 x5_1).f1.f0.f0), .int .i64 ((rd_T41 l0 x5_1).f1.f0.f1), .int .i64 ((rd_T41 l0 x5_1).f1.f1), .int .i64 ((rd_T41 l0 x5_1).f1.f2)] (fun k_ => some k_ ≠ (.slice Ao8 x4_1.length co8 : Value).ownBlock) (fun _ => False) rfl rfl ?aP (fun _ hk => hk.elim) ?aF ?aO ?aB ?aS ?aL ?_; (case aP => exact k26_mkM _ _ _ (⟨(⟨(rd_T41 l0 x5_1).f1.f0.f0, (rd_T41 l0 x5_1).f1.f0.f1⟩ : S24), (rd_T41 l0 x5_1).f1.f1, (rd_T41 l0 x5_1).f1.f2⟩ : S26)); (case aB => exact (by repeat (first | (with_reducible first | exact HB.out | apply below_alloc | apply pw_below_drewN | apply below_drew1) | exact HB.out))); (case aF => exact (fun k_ hk => Kd.fresh' (Kd.R_lt (by (with_reducible repeat (first | apply Kd.R_alloc | apply Kd.R_drewN | apply Kd.R_drew)); exact HO_23.out)) k_ hk)); (case aO => exact (by (with_reducible repeat (first | apply Kd.R_alloc | apply Kd.R_drewN | apply Kd.R_drew)); exact HO_6.out)); (case aS => exact (below_size (by repeat (first | (with_reducible first | exact HB.out | apply below_alloc | apply pw_below_drewN | apply below_drew1) | exact HB.out)))); (case aL => have := LMc30.out; omega); intro v220 w32 ho hb hg hat; rw [← Ny219.out] at ho; have n0_ := Aside0.mk (Kd.R_after (ok := (fun _ => True)) (by (with_reducible repeat (first | apply Kd.R_alloc | apply Kd.R_drewN | apply Kd.R_drew)); exact Kd.R_mono HO_23.out (fun _ hk => ⟨trivial, hk⟩)) hg hat); have n1_ := Aside0.mk (hb); have n2_ := Aside0.mk (ho); clear HO_23; clear HB; clear HO_6; have HO_23 := n0_; have HB := n1_; have HO221 := n2_; clear n0_ n1_ n2_; clear ho hb hg hat; obtain ⟨Ao33, co33, eo33⟩ := Kd.R_slice HO221.out; subst eo33))
                              go_ret2
                              exact ⟨_, by first | rfl | (simp [errW_none, errW_some] <;> rfl) | (simp [*, errW_none, errW_some] <;> rfl), by first | exact Kd.R_nil _ _ _ _ _ | exact Kd.N_nil _ _ _ _ _ | exact Kd.V_nil _ _ _ _ _ | exact Kd.Q_nil _ _ _ _ _ | exact Kd.S_nil _ _ _ _ _, by repeat (first | (with_reducible first | exact HB.out | apply below_alloc | apply pw_below_drewN | apply below_drew1) | exact HB.out)⟩
                            · rw [if_neg c31] at H
                              have c31b0 : decide (1024 < (y219.length : Int)) = false := decide_eq_false c31
                              have c31b1 : decide (1024 < y219.length) = false := decide_eq_false (by omega)
                              clear c31
                              have H' := Aside0.mk H
                              clear H
                              have p217 : 0 ≤ (x5_1 : Int) := of_decide_eq_true (by first | (with_reducible assumption) | assumption)
                              have q217 : x5_1 < (l0.length : Int) := of_decide_eq_true (by first | (with_reducible assumption) | assumption)
                              obtain ⟨ad217, e217, hx217_0, hx217_1, hx217_2, hx217_3, hx217_4⟩ := at_T41 HR0.out x5_1 p217 q217
                              (try rw [← Nbq25.out] at hx217_0)
                              obtain rfl : ad206 = ad217 := (by injection e217)
                              replace hx217_0 := (HB.out.cell (World.block_lt_of_cell? w _ hx217_0)).trans hx217_0
                              replace hx217_1 := (HB.out.cell (World.block_lt_of_cell? w _ hx217_1)).trans hx217_1
                              replace hx217_2 := (HB.out.cell (World.block_lt_of_cell? w _ hx217_2)).trans hx217_2
                              replace hx217_3 := (HB.out.cell (World.block_lt_of_cell? w _ hx217_3)).trans hx217_3
                              replace hx217_4 := (HB.out.cell (World.block_lt_of_cell? w _ hx217_4)).trans hx217_4
                              replace p217 := eq_true p217
                              replace q217 := eq_true q217
                              have p218 : 0 ≤ (x5_1 : Int) := of_decide_eq_true (by first | (with_reducible assumption) | assumption)
                              have q218 : x5_1 < (l0.length : Int) := of_decide_eq_true (by first | (with_reducible assumption) | assumption)
                              obtain ⟨ad218, e218, hx218_0, hx218_1, hx218_2, hx218_3, hx218_4⟩ := at_T41 HR0.out x5_1 p218 q218
                              (try rw [← Nbq25.out] at hx218_0)
                              obtain rfl : ad206 = ad218 := (by injection e218)
                              replace hx218_0 := (HB.out.cell (World.block_lt_of_cell? w _ hx218_0)).trans hx218_0
                              replace hx218_1 := (HB.out.cell (World.block_lt_of_cell? w _ hx218_1)).trans hx218_1
                              replace hx218_2 := (HB.out.cell (World.block_lt_of_cell? w _ hx218_2)).trans hx218_2
                              replace hx218_3 := (HB.out.cell (World.block_lt_of_cell? w _ hx218_3)).trans hx218_3
                              replace hx218_4 := (HB.out.cell (World.block_lt_of_cell? w _ hx218_4)).trans hx218_4
                              replace p218 := eq_true p218
                              replace q218 := eq_true q218
                              go_wp2_with (first | ((with_reducible refine gate_builtin (b := .append) (xs := #[.tmp 45, .tmp 51]) rfl ?_); at_builtin; refine Kd.R_append k26 (w0 := w) w.heap.size rfl (.tmp 45) (.tmp 51) 31 26 (.agg #[(.int .u32 0), (.int .i64 0), (.int .i64 0), (.int .i64 0)]) 32 rfl Try.underlying31 info26 rfl (by decide) (by omega) u6 x6_2 (⟨(⟨(rd_T41 l0 x5_1).f1.f0.f0, (rd_T41 l0 x5_1).f1.f0.f1⟩ : S24), (rd_T41 l0 x5_1).f1.f1, (rd_T41 l0 x5_1).f1.f2⟩ : S26) [.int .u32 ((rd_T41 l0 x5_1).f1.f0.f0), .int .i64 ((rd_T41 l0 x5_1).f1.f0.f1), .int .i64 ((rd_T41 l0 x5_1).f1.f1), .int .i64 ((rd_T41 l0 x5_1).f1.f2)] (fun k_ => some k_ ≠ (.slice Ao8 x4_1.length co8 : Value).ownBlock) (fun _ => False) rfl rfl ?aP (fun _ hk => hk.elim) ?aF ?aO ?aB ?aS ?aL ?_; (case aP => exact k26_mkM _ _ _ (⟨(⟨(rd_T41 l0 x5_1).f1.f0.f0, (rd_T41 l0 x5_1).f1.f0.f1⟩ : S24), (rd_T41 l0 x5_1).f1.f1, (rd_T41 l0 x5_1).f1.f2⟩ : S26)); (case aB => exact (by repeat (first | (with_reducible first | exact HB.out | apply below_alloc | apply pw_below_drewN | apply below_drew1) | exact HB.out))); (case aF => exact (fun k_ hk => Kd.fresh' (Kd.R_lt (by (with_reducible repeat (first | apply Kd.R_alloc | apply Kd.R_drewN | apply Kd.R_drew)); exact HO_23.out)) k_ hk)); (case aO => exact (by (with_reducible repeat (first | apply Kd.R_alloc | apply Kd.R_drewN | apply Kd.R_drew)); exact HO_6.out)); (case aS => exact (below_size (by repeat (first | (with_reducible first | exact HB.out | apply below_alloc | apply pw_below_drewN | apply below_drew1) | exact HB.out)))); (case aL => have := LMc30.out; omega); intro v220 w34 ho hb hg hat; rw [← Ny219.out] at ho; have n0_ := Aside0.mk (Kd.R_after (ok := (fun _ => True)) (by (with_reducible repeat (first | apply Kd.R_alloc | apply Kd.R_drewN | apply Kd.R_drew)); exact Kd.R_mono HO_23.out (fun _ hk => ⟨trivial, hk⟩)) hg hat); have n1_ := Aside0.mk (hb); have n2_ := Aside0.mk (ho); clear HO_23; clear HB; clear HO_6; have HO_23 := n0_; have HB := n1_; have HO221 := n2_; clear n0_ n1_ n2_; clear ho hb hg hat; obtain ⟨Ao35, co35, eo35⟩ := Kd.R_slice HO221.out; subst eo35))
                              go_roundg k2
                              case measure => have := HK1.out; have := HK2.out; omega
                              case rel => exact ⟨(y219), (wrap64 (x5_1 - 1)), (by first | rfl | (simp; done) | (simp [*]; done)), H', ⟨by have := HK1.out; have := HK2.out; omega⟩, ⟨by (with_reducible repeat (first | apply Kd.R_alloc | apply Kd.R_drewN | apply Kd.R_drew)); exact Kd.R_mono HO221.out (fun _ hk => trivial)⟩, ⟨by repeat (first | (with_reducible first | exact HB.out | apply below_alloc | apply pw_below_drewN | apply below_drew1) | exact HB.out)⟩⟩
                          · rw [if_neg c30] at H
                            exact absurd H (by simp)
                      · rw [if_neg c24] at H
                        exact absurd H (by simp)
                    · rw [if_neg c23] at H
                      exact absurd H (by simp)
            · replace c6 := Bool.eq_false_iff.mpr c6
              subst c6
              have H1 : (dragomanref04_Flat.l0 k1 l0 x4_1 (wrap64 (x5_1 - 1))) = some (r1, r2) := by rw [if_neg (show ¬ (false = true) by decide)] at H; exact H
              clear H
              have H := H1
              clear H1
              have H' := Aside0.mk H
              clear H
              have p206 : 0 ≤ (x5_1 : Int) := of_decide_eq_true (by first | (with_reducible assumption) | assumption)
              have q206 : x5_1 < (l0.length : Int) := of_decide_eq_true (by first | (with_reducible assumption) | assumption)
              obtain ⟨ad206, e206, hx206_0, hx206_1, hx206_2, hx206_3, hx206_4⟩ := at_T41 HR0.out x5_1 p206 q206
              cases e206
              replace hx206_0 := (HB.out.cell (World.block_lt_of_cell? w _ hx206_0)).trans hx206_0
              replace hx206_1 := (HB.out.cell (World.block_lt_of_cell? w _ hx206_1)).trans hx206_1
              replace hx206_2 := (HB.out.cell (World.block_lt_of_cell? w _ hx206_2)).trans hx206_2
              replace hx206_3 := (HB.out.cell (World.block_lt_of_cell? w _ hx206_3)).trans hx206_3
              replace hx206_4 := (HB.out.cell (World.block_lt_of_cell? w _ hx206_4)).trans hx206_4
              replace p206 := eq_true p206
              replace q206 := eq_true q206
              go_wp2_with (first | ((with_reducible refine gate_callee (f := 20) rfl ?_); refine goesL_ (some 21) rfl rfl Try.func20 (by kernel_rfl) rfl #[.agg #[.int .u32 ((rd_T41 l0 x5_1).f1.f0.f0), .int .i64 ((rd_T41 l0 x5_1).f1.f0.f1), .int .i64 ((rd_T41 l0 x5_1).f1.f1), .int .i64 ((rd_T41 l0 x5_1).f1.f2)]] rfl (by (try simp only [List.map_toArray, List.map_cons, List.map_nil]); first | done | rfl | (simp only [List.length_drop, List.length_take]; rfl)) ?_; (with_reducible refine (dragomanref04_Right.calls k1 ((rd_T41 l0 x5_1).f1.f0.f0) ((rd_T41 l0 x5_1).f1.f0.f1) ((rd_T41 l0 x5_1).f1.f1) ((rd_T41 l0 x5_1).f1.f2) false _ A5.out).mono ?_); rintro e w36 ⟨rfl, hb⟩; refine ⟨_, rfl, ?_⟩; have n0_ := Aside0.mk (Kd.R_below (by (with_reducible repeat (first | apply Kd.R_alloc | apply Kd.R_drewN | apply Kd.R_drew)); exact HO_4.out) hb); have n1_ := Aside0.mk (below_step (by repeat (first | (with_reducible first | exact HB.out | apply below_alloc | apply pw_below_drewN | apply below_drew1) | exact HB.out)) hb); clear HO_4; clear HB; have HO_4 := n0_; have HB := n1_; clear n0_ n1_; (try clear hb); (try clear hb2); (try clear hk); (try clear hi)))
              go_roundg k1
              case measure => have := HK1.out; omega
              case rel => exact ⟨(x4_1), (wrap64 (x5_1 - 1)), (by first | rfl | (simp; done) | (simp [*]; done)), H', ⟨by have := HK1.out; omega⟩, ⟨by (with_reducible repeat (first | apply Kd.R_alloc | apply Kd.R_drewN | apply Kd.R_drew)); exact HO_4.out⟩, ⟨by repeat (first | (with_reducible first | exact HB.out | apply below_alloc | apply pw_below_drewN | apply below_drew1) | exact HB.out)⟩⟩
          · rw [if_neg c4] at H
            exact absurd H (by simp)
        · rw [if_neg c3] at H
          exact absurd H (by simp)
      · rw [if_neg c2] at H
        have c2b0 : decide (0 ≤ x5_1) = false := decide_eq_false c2
        clear c2
        simp only [Option.some.injEq, Prod.mk.injEq] at H
        obtain ⟨rfl, rfl⟩ := H
        go_wp2
        go_ret2
        exact ⟨_, by first | rfl | (simp [errW_none, errW_some] <;> rfl) | (simp [*, errW_none, errW_some] <;> rfl), by (with_reducible repeat (first | apply Kd.R_alloc | apply Kd.R_drewN | apply Kd.R_drew)); exact HO_4.out, by repeat (first | (with_reducible first | exact HB.out | apply below_alloc | apply pw_below_drewN | apply below_drew1) | exact HB.out)⟩

end Go.Proofs.Ytgljfjjainlhgaa.PPfxFlat
