/- Written for this claim by a program of this session, after the kit's print. Not trusted: Lean checks it. -/
import Derived.Test.YtpcjinapcmkbcaaPNlriBackx0
import Derived.Test.YtpcjinapcmkbcaaPNlriBackx2
import Derived.Test.YtpcjinapcmkbcaaPNlriBackx3
namespace Go.Proofs.Ytpcjinapcmkbcaa.PNlriBack
open Go.RowKit Go.Proofs.YtpcjinapcmkbcaaW.PrintWords Go.Proofs.YtpcjinapcmkbcaaW.PrintLast Go.Proofs.YtpcjinapcmkbcaaW.PrintMore
attribute [local go_sem] max2_int min2_int max_two min_two max_three min_three max_four min_four   -- for this text's walks alone
set_option linter.unusedVariables false
set_option linter.unusedSimpArgs false

/-! ### dragomanlaw23_NlriBack: function 5 -/
mutual
def dragomanlaw23_NlriBack.j0 : Nat → List (S34) → List Int → Bool → Option (Bool)
  | 0, _, _, _ => none
  | k + 1, x0, x1, x25 => if x25 = true then (some true) else ((nlri_Put.f x0).bind fun bt153 => (if bt153.2 = 0 then ((nlri_Read.f bt153.1).bind fun bt157 => (if bt157.2 = 0 then ((dragomanref23_Same.f k x0 bt157.1).bind fun t161 => (if t161 = true then (dragomanlaw23_NlriBack.j1 k x1) else (some false))) else (some false))) else (dragomanlaw23_NlriBack.j1 k x1)))
def dragomanlaw23_NlriBack.j1 : Nat → List Int → Option (Bool)
  | 0, _ => none
  | k + 1, x1 => (nlri_Read.f x1).bind fun bt162 => (if bt162.2 = 0 then (dragomanlaw23_NlriBack.l0 k x1 bt162.1 0 bt162.1 (bt162.1.length : Int) 0) else (some ((bt162.1.length : Int) == 0)))
def dragomanlaw23_NlriBack.l0 : Nat → List Int → List (S34) → Int → List (S34) → Int → Int → Option (Bool)
  | 0, _, _, _, _, _, _ => none
  | k + 1, x1, x9, x11, x56, x57, x58 => if x58 < x57 then (if 0 ≤ x58 then (if x58 < (x56.length : Int) then ((dragomanref03_Right.f k ((rd_T34 x56 x58).f0) ((rd_T34 x56 x58).f1)).bind fun t172 => (if t172 = true then ((nlri_Size.f ((rd_T34 x56 x58).f0) ((rd_T34 x56 x58).f1)).bind fun t173 => (dragomanlaw23_NlriBack.l0 k x1 x9 (wrap64 (x11 + t173)) x56 x57 (wrap64 (x58 + 1)))) else (some false))) else (none)) else (none)) else ((nlri_Put.f x9).bind fun bt166 => (if bt166.2 = 0 then (if (bt166.1.length : Int) = (x1.length : Int) then (some (x11 == (x1.length : Int))) else (some false)) else (some false)))
end
def dragomanlaw23_NlriBack.f (k : Nat) (l0 : List (S34)) (l1 : List Int) : Option (Bool) := (dragomanlaw23_alive.f k).bind fun t152 => (if t152 = true then (if (l0.length : Int) > 2000 then (dragomanlaw23_NlriBack.j0 k l0 l1 true) else (dragomanlaw23_NlriBack.j0 k l0 l1 (decide ((l1.length : Int) > 10000)))) else (some false))
theorem dragomanlaw23_NlriBack.mono_l : ∀ k, (∀ y0 y1 y2, LeO (dragomanlaw23_NlriBack.j0 k y0 y1 y2) (dragomanlaw23_NlriBack.j0 (k + 1) y0 y1 y2)) ∧ (∀ y0, LeO (dragomanlaw23_NlriBack.j1 k y0) (dragomanlaw23_NlriBack.j1 (k + 1) y0)) ∧ (∀ y0 y1 y2 y3 y4 y5, LeO (dragomanlaw23_NlriBack.l0 k y0 y1 y2 y3 y4 y5) (dragomanlaw23_NlriBack.l0 (k + 1) y0 y1 y2 y3 y4 y5))
  | 0 => ⟨fun _ _ _ r h => by simp [dragomanlaw23_NlriBack.j0] at h, fun _ r h => by simp [dragomanlaw23_NlriBack.j1] at h, fun _ _ _ _ _ _ r h => by simp [dragomanlaw23_NlriBack.l0] at h⟩
  | k + 1 => by
    obtain ⟨ih0, ih1, ih2⟩ := dragomanlaw23_NlriBack.mono_l k
    refine ⟨?_, ?_, ?_⟩
    · intro y0 y1 y2
      unfold dragomanlaw23_NlriBack.j0
      repeat' first
      | (with_reducible exact ih0 _ _ _)
      | (with_reducible exact ih1 _)
      | (with_reducible exact ih2 _ _ _ _ _ _)
      | (with_reducible exact dragomanlaw23_alive.mono _)
      | (with_reducible exact dragomanref03_Right.mono _ _ _)
      | (with_reducible exact dragomanref23_Same.mono _ _ _)
      | (with_reducible exact LeO.refl _)
      | (with_reducible exact LeO.none _)
      | (with_reducible refine LeO.ite ?_ ?_)
      | (with_reducible refine LeO.bind ?_ (fun _ => ?_))
      | exact ih0 _ _ _
      | exact ih1 _
      | exact ih2 _ _ _ _ _ _
      | exact dragomanlaw23_alive.mono _
      | exact dragomanref03_Right.mono _ _ _
      | exact dragomanref23_Same.mono _ _ _
      | exact LeO.none _
      | refine LeO.ite ?_ ?_
      | refine LeO.bind ?_ (fun _ => ?_)
    · intro y0
      unfold dragomanlaw23_NlriBack.j1
      repeat' first
      | (with_reducible exact ih0 _ _ _)
      | (with_reducible exact ih1 _)
      | (with_reducible exact ih2 _ _ _ _ _ _)
      | (with_reducible exact dragomanlaw23_alive.mono _)
      | (with_reducible exact dragomanref03_Right.mono _ _ _)
      | (with_reducible exact dragomanref23_Same.mono _ _ _)
      | (with_reducible exact LeO.refl _)
      | (with_reducible exact LeO.none _)
      | (with_reducible refine LeO.ite ?_ ?_)
      | (with_reducible refine LeO.bind ?_ (fun _ => ?_))
      | exact ih0 _ _ _
      | exact ih1 _
      | exact ih2 _ _ _ _ _ _
      | exact dragomanlaw23_alive.mono _
      | exact dragomanref03_Right.mono _ _ _
      | exact dragomanref23_Same.mono _ _ _
      | exact LeO.none _
      | refine LeO.ite ?_ ?_
      | refine LeO.bind ?_ (fun _ => ?_)
    · intro y0 y1 y2 y3 y4 y5
      unfold dragomanlaw23_NlriBack.l0
      repeat' first
      | (with_reducible exact ih0 _ _ _)
      | (with_reducible exact ih1 _)
      | (with_reducible exact ih2 _ _ _ _ _ _)
      | (with_reducible exact dragomanlaw23_alive.mono _)
      | (with_reducible exact dragomanref03_Right.mono _ _ _)
      | (with_reducible exact dragomanref23_Same.mono _ _ _)
      | (with_reducible exact LeO.refl _)
      | (with_reducible exact LeO.none _)
      | (with_reducible refine LeO.ite ?_ ?_)
      | (with_reducible refine LeO.bind ?_ (fun _ => ?_))
      | exact ih0 _ _ _
      | exact ih1 _
      | exact ih2 _ _ _ _ _ _
      | exact dragomanlaw23_alive.mono _
      | exact dragomanref03_Right.mono _ _ _
      | exact dragomanref23_Same.mono _ _ _
      | exact LeO.none _
      | refine LeO.ite ?_ ?_
      | refine LeO.bind ?_ (fun _ => ?_)
theorem dragomanlaw23_NlriBack.mono : ∀ a0 a1 k, LeO (dragomanlaw23_NlriBack.f k a0 a1) (dragomanlaw23_NlriBack.f (k + 1) a0 a1) := by
  intro a0 a1 k
  obtain ⟨ih0, ih1, ih2⟩ := dragomanlaw23_NlriBack.mono_l k
  unfold dragomanlaw23_NlriBack.f
  repeat' first
      | (with_reducible exact ih0 _ _ _)
      | (with_reducible exact ih1 _)
      | (with_reducible exact ih2 _ _ _ _ _ _)
      | (with_reducible exact dragomanlaw23_alive.mono _)
      | (with_reducible exact dragomanref03_Right.mono _ _ _)
      | (with_reducible exact dragomanref23_Same.mono _ _ _)
      | (with_reducible exact LeO.refl _)
      | (with_reducible exact LeO.none _)
      | (with_reducible refine LeO.ite ?_ ?_)
      | (with_reducible refine LeO.bind ?_ (fun _ => ?_))
      | exact ih0 _ _ _
      | exact ih1 _
      | exact ih2 _ _ _ _ _ _
      | exact dragomanlaw23_alive.mono _
      | exact dragomanref03_Right.mono _ _ _
      | exact dragomanref23_Same.mono _ _ _
      | exact LeO.none _
      | refine LeO.ite ?_ ?_
      | refine LeO.bind ?_ (fun _ => ?_)
set_option maxHeartbeats 8000000 in
set_option maxRecDepth 100000 in
theorem dragomanlaw23_NlriBack.calls (k : Nat) (A0 : Option Addr) (c0 : Nat) (l0 : List (S34)) (A1 : Option Addr) (c1 : Nat) (l1 : List Int) (r : Bool) (w : World) (hr0 : Kd.C k34 w A0 l0.length l0) (hc0 : l0.length ≤ c0) (hr1 : Kd.C (Kd.int .u8) w A1 l1.length l1) (hc1 : l1.length ≤ c1) (h : dragomanlaw23_NlriBack.f k l0 l1 = some r) :
    Calls Try.prog 5 #[.slice A0 l0.length c0, .slice A1 l1.length c1] w fun e w' => e = .returned (.bool r) ∧ Below w.heap.size w w' := by
  have hu34 := Try.underlying34
  have HR0 := Aside0.mk hr0
  have HC0 := Aside0.mk hc0
  clear hr0 hc0
  have HR1 := Aside0.mk hr1
  have HC1 := Aside0.mk hc1
  clear hr1 hc1
  have HB := Aside0.mk (Below.refl w.heap.size w)
  have H : ((dragomanlaw23_alive.f k).bind fun t152 => (if t152 = true then (if (l0.length : Int) > 2000 then (dragomanlaw23_NlriBack.j0 k l0 l1 true) else (dragomanlaw23_NlriBack.j0 k l0 l1 (decide ((l1.length : Int) > 10000)))) else (some false))) = some r := h
  clear h
  replace H := Option.bind_eq_some_iff.mp H
  obtain ⟨t152, A30, H⟩ := H
  replace H : (if t152 = true then (if (l0.length : Int) > 2000 then (dragomanlaw23_NlriBack.j0 k l0 l1 true) else (dragomanlaw23_NlriBack.j0 k l0 l1 (decide ((l1.length : Int) > 10000)))) else (some false)) = some r := H
  have A3 := Aside0.mk A30
  clear A30
  by_cases c4 : t152 = true
  · subst c4
    have H1 : (if (l0.length : Int) > 2000 then (dragomanlaw23_NlriBack.j0 k l0 l1 true) else (dragomanlaw23_NlriBack.j0 k l0 l1 (decide ((l1.length : Int) > 10000)))) = some r := by rw [if_pos rfl] at H; exact H
    clear H
    have H := H1
    clear H1
    have HC5 := Aside0.mk H
    clear H
    go_enter Try.func5, Try.ntmps5
    go_upto_region 3 with (first | ((with_reducible refine gate_callee (f := 7) rfl ?_); refine goesL_ (some 16) rfl rfl Try.func7 (by kernel_rfl) rfl #[] rfl (by (try simp only [List.map_toArray, List.map_cons, List.map_nil]); first | done | rfl | (simp only [List.length_drop, List.length_take]; rfl)) ?_; (with_reducible refine (dragomanlaw23_alive.calls k  true _ A3.out).mono ?_); rintro e w6 ⟨rfl, hb⟩; refine ⟨_, rfl, ?_⟩; have n0_ := Aside0.mk (below_step (by repeat (first | (with_reducible first | exact HB.out | apply below_alloc | apply pw_below_drewN | apply below_drew1) | exact HB.out)) hb); clear HB; have HB := n0_; clear n0_; (try clear hb); (try clear hb2); (try clear hk); (try clear hi)))
    (try simp only [Act.put, List.setIfInBounds_toArray, List.set_cons_zero, List.set_cons_succ])
    go_cut [25] (fun v25 wc => ∃ (kq : Nat) (x25_4 : Bool), v25 = .bool x25_4 ∧ Aside0 (dragomanlaw23_NlriBack.j0 kq l0 l1 x25_4 = some r) ∧ Aside0 (kq ≤ k) ∧ Aside0 (Below w.heap.size w wc))
    case first =>
      have H := HC5.out
      clear HC5
      by_cases c7 : (l0.length : Int) > 2000
      · rw [if_pos c7] at H
        have c7b0 : decide (2000 < (l0.length : Int)) = true := decide_eq_true c7
        have c7b1 : decide (2000 < l0.length) = true := decide_eq_true (by omega)
        clear c7
        (first | rw [c7b0] | (simp only [i64_w, i32_w]; rw [c7b0]) | skip)
        have H' := Aside0.mk H
        clear H
        go_wp2
        go_meet
        case rel => exact ⟨_, (true), (by first | rfl | (simp; done) | (simp [*]; done)), H', ⟨by first | omega | exact Nat.le_refl _⟩, ⟨by repeat (first | (with_reducible first | exact HB.out | apply below_alloc | apply pw_below_drewN | apply below_drew1) | exact HB.out)⟩⟩
      · rw [if_neg c7] at H
        have c7b0 : decide (2000 < (l0.length : Int)) = false := decide_eq_false c7
        have c7b1 : decide (2000 < l0.length) = false := decide_eq_false (by omega)
        clear c7
        (first | rw [c7b0] | (simp only [i64_w, i32_w]; rw [c7b0]) | skip)
        have H' := Aside0.mk H
        clear H
        go_wp2
        go_meet
        case rel => exact ⟨_, (decide ((l1.length : Int) > 10000)), (by first | rfl | (simp; done) | (simp [*]; done)), H', ⟨by first | omega | exact Nat.le_refl _⟩, ⟨by repeat (first | (with_reducible first | exact HB.out | apply below_alloc | apply pw_below_drewN | apply below_drew1) | exact HB.out)⟩⟩
    case rest =>
      clear HC5
      try clear c1
      try clear p2
      try clear c4
      try clear c5
      try clear c7
      try clear c7b0
      try clear c7b1
      obtain ⟨kq, x25_4, rfl, HA, HJ4, HB⟩ := hcut
      cases kq with
      | zero => exact absurd HA.out (by simp [dragomanlaw23_NlriBack.j0])
      | succ kj4 =>
        have H := HA.out
        clear HA
        simp only [dragomanlaw23_NlriBack.j0] at H
        by_cases c8 : x25_4 = true
        · subst c8
          have H1 : (some true) = some r := by rw [if_pos rfl] at H; exact H
          clear H
          have H := H1
          clear H1
          obtain rfl := Option.some.inj H
          go_wp2
          go_ret
          exact ⟨by first | rfl | (simp [errW_none, errW_some] <;> rfl) | (simp [*, errW_none, errW_some] <;> rfl), by repeat (first | (with_reducible first | exact HB.out | apply below_alloc | apply pw_below_drewN | apply below_drew1) | exact HB.out)⟩
        · replace c8 := Bool.eq_false_iff.mpr c8
          subst c8
          have H1 : ((nlri_Put.f l0).bind fun bt153 => (if bt153.2 = 0 then ((nlri_Read.f bt153.1).bind fun bt157 => (if bt157.2 = 0 then ((dragomanref23_Same.f kj4 l0 bt157.1).bind fun t161 => (if t161 = true then (dragomanlaw23_NlriBack.j1 kj4 l1) else (some false))) else (some false))) else (dragomanlaw23_NlriBack.j1 kj4 l1))) = some r := by rw [if_neg (show ¬ (false = true) by decide)] at H; exact H
          clear H
          have H := H1
          clear H1
          replace H := Option.bind_eq_some_iff.mp H
          obtain ⟨⟨t153, t154⟩, A90, H⟩ := H
          replace H : (if t154 = 0 then ((nlri_Read.f t153).bind fun bt157 => (if bt157.2 = 0 then ((dragomanref23_Same.f kj4 l0 bt157.1).bind fun t161 => (if t161 = true then (dragomanlaw23_NlriBack.j1 kj4 l1) else (some false))) else (some false))) else (dragomanlaw23_NlriBack.j1 kj4 l1)) = some r := H
          have A9 := Aside0.mk A90
          clear A90
          have HC10 := Aside0.mk H
          clear H
          go_upto_if 32 with (first | ((with_reducible refine gate_callee (f := 8) rfl ?_); refine goesL_ (some 28) rfl rfl Try.func8 (by kernel_rfl) rfl #[.slice A0 l0.length c0] rfl (by (try simp only [List.map_toArray, List.map_cons, List.map_nil]); first | done | rfl | (simp only [List.length_drop, List.length_take]; rfl)) ?_; (with_reducible refine (nlri_Put.calls _ _ l0 t153 t154 _ ?side1 ?side2 A9.out).mono ?_); (case side1 => repeat (first | exact (Kd.C_below HR0.out HB.out) | (with_reducible refine Kd.C_alloc ?_ _) | (with_reducible refine Kd.C_drewN ?_ _) | (with_reducible refine Kd.C_drew ?_))); (case side2 => exact HC0.out); rintro e w11 ⟨v155, rfl, ho0, hb⟩; refine ⟨_, rfl, ?_⟩; have n0_ := Aside0.mk (Kd.R_lower ho0 (below_size (by repeat (first | (with_reducible first | exact HB.out | apply below_alloc | apply pw_below_drewN | apply below_drew1) | exact HB.out)))); have n1_ := Aside0.mk (below_step (by repeat (first | (with_reducible first | exact HB.out | apply below_alloc | apply pw_below_drewN | apply below_drew1) | exact HB.out)) hb); clear HB; have HO156 := n0_; have HB := n1_; clear n0_ n1_; (try clear hb); (try clear hb2); (try clear hk); (try clear hi); (try clear ho0)))
          (try simp only [Act.put, List.setIfInBounds_toArray, List.set_cons_zero, List.set_cons_succ])
          go_cut [] (fun wc => ∃ (kq : Nat), Aside0 (dragomanlaw23_NlriBack.j1 kq l1 = some r) ∧ Aside0 (kq ≤ kj4) ∧ Aside0 (Below w.heap.size w wc))
          case first =>
            have H := HC10.out
            clear HC10
            by_cases c12 : t154 = 0
            · rw [if_pos c12] at H
              have c12b0 : (t154 == 0) = true := beq_iff_eq.mpr c12
              have c12b1 : (t154 != 0) = false := bne_eq_false_iff_eq.mpr c12
              clear c12
              (first | rw [c12b0] | (simp only [i64_w, i32_w]; rw [c12b0]) | skip)
              replace H := Option.bind_eq_some_iff.mp H
              obtain ⟨⟨t157, t158⟩, A130, H⟩ := H
              replace H : (if t158 = 0 then ((dragomanref23_Same.f kj4 l0 t157).bind fun t161 => (if t161 = true then (dragomanlaw23_NlriBack.j1 kj4 l1) else (some false))) else (some false)) = some r := H
              have A13 := Aside0.mk A130
              clear A130
              by_cases c14 : t158 = 0
              · rw [if_pos c14] at H
                have c14b0 : (t158 == 0) = true := beq_iff_eq.mpr c14
                have c14b1 : (t158 != 0) = false := bne_eq_false_iff_eq.mpr c14
                clear c14
                replace H := Option.bind_eq_some_iff.mp H
                obtain ⟨t161, A150, H⟩ := H
                replace H : (if t161 = true then (dragomanlaw23_NlriBack.j1 kj4 l1) else (some false)) = some r := H
                have A15 := Aside0.mk A150
                clear A150
                by_cases c16 : t161 = true
                · subst c16
                  have H1 : (dragomanlaw23_NlriBack.j1 kj4 l1) = some r := by rw [if_pos rfl] at H; exact H
                  clear H
                  have H := H1
                  clear H1
                  have H' := Aside0.mk H
                  clear H
                  obtain ⟨Ao17, co17, eo17⟩ := Kd.R_slice HO156.out
                  subst eo17
                  go_wp2_with (first | ((with_reducible refine gate_callee (f := 14) rfl ?_); refine goesL_ (some 35) rfl rfl Try.func14 (by kernel_rfl) rfl #[.slice Ao17 t153.length co17] rfl (by (try simp only [List.map_toArray, List.map_cons, List.map_nil]); first | done | rfl | (simp only [List.length_drop, List.length_take]; rfl)) ?_; (with_reducible refine (nlri_Read.calls _ _ t153 t157 t158 _ ?side1 ?side2 A13.out).mono ?_); (case side1 => repeat (first | exact (Kd.R_reads' HO156.out).2.2 | (with_reducible refine Kd.C_alloc ?_ _) | (with_reducible refine Kd.C_drewN ?_ _) | (with_reducible refine Kd.C_drew ?_))); (case side2 => exact (Kd.R_reads' HO156.out).2.1); rintro e w18 ⟨v159, rfl, ho0, hb⟩; refine ⟨_, rfl, ?_⟩; have n0_ := Aside0.mk (Kd.R_below (by (with_reducible repeat (first | apply Kd.R_alloc | apply Kd.R_drewN | apply Kd.R_drew)); exact HO156.out) hb); have n1_ := Aside0.mk (Kd.R_lower ho0 (below_size (by repeat (first | (with_reducible first | exact HB.out | apply below_alloc | apply pw_below_drewN | apply below_drew1) | exact HB.out)))); have n2_ := Aside0.mk (below_step (by repeat (first | (with_reducible first | exact HB.out | apply below_alloc | apply pw_below_drewN | apply below_drew1) | exact HB.out)) hb); clear HO156; clear HB; have HO156 := n0_; have HO160 := n1_; have HB := n2_; clear n0_ n1_ n2_; (try clear hb); (try clear hb2); (try clear hk); (try clear hi); (try clear ho0); obtain ⟨Ao19, co19, eo19⟩ := Kd.R_slice HO160.out; subst eo19) | (go_at_call 11; (with_reducible refine (dragomanref23_Same.calls kj4 _ _ l0 _ _ t157 true _ ?side1 ?side2 ?side3 ?side4 A15.out).mono ?_); (case side1 => repeat (first | exact (Kd.C_below HR0.out HB.out) | (with_reducible refine Kd.C_alloc ?_ _) | (with_reducible refine Kd.C_drewN ?_ _) | (with_reducible refine Kd.C_drew ?_))); (case side2 => exact HC0.out); (case side3 => repeat (first | exact (Kd.R_reads' HO160.out).2.2 | (with_reducible refine Kd.C_alloc ?_ _) | (with_reducible refine Kd.C_drewN ?_ _) | (with_reducible refine Kd.C_drew ?_))); (case side4 => exact (Kd.R_reads' HO160.out).2.1); rintro e w' ⟨rfl, ⟨nd, rfl⟩⟩))
                  go_meet
                  case rel => exact ⟨_, H', ⟨by have := HJ4.out; first | omega | exact Nat.le_refl _⟩, ⟨by repeat (first | (with_reducible first | exact HB.out | apply below_alloc | apply pw_below_drewN | apply below_drew1) | exact HB.out)⟩⟩
                · replace c16 := Bool.eq_false_iff.mpr c16
                  subst c16
                  have H1 : (some false) = some r := by rw [if_neg (show ¬ (false = true) by decide)] at H; exact H
                  clear H
                  have H := H1
                  clear H1
                  obtain rfl := Option.some.inj H
                  obtain ⟨Ao20, co20, eo20⟩ := Kd.R_slice HO156.out
                  subst eo20
                  go_wp2_with (first | ((with_reducible refine gate_callee (f := 14) rfl ?_); refine goesL_ (some 35) rfl rfl Try.func14 (by kernel_rfl) rfl #[.slice Ao20 t153.length co20] rfl (by (try simp only [List.map_toArray, List.map_cons, List.map_nil]); first | done | rfl | (simp only [List.length_drop, List.length_take]; rfl)) ?_; (with_reducible refine (nlri_Read.calls _ _ t153 t157 t158 _ ?side1 ?side2 A13.out).mono ?_); (case side1 => repeat (first | exact (Kd.R_reads' HO156.out).2.2 | (with_reducible refine Kd.C_alloc ?_ _) | (with_reducible refine Kd.C_drewN ?_ _) | (with_reducible refine Kd.C_drew ?_))); (case side2 => exact (Kd.R_reads' HO156.out).2.1); rintro e w21 ⟨v159, rfl, ho0, hb⟩; refine ⟨_, rfl, ?_⟩; have n0_ := Aside0.mk (Kd.R_below (by (with_reducible repeat (first | apply Kd.R_alloc | apply Kd.R_drewN | apply Kd.R_drew)); exact HO156.out) hb); have n1_ := Aside0.mk (Kd.R_lower ho0 (below_size (by repeat (first | (with_reducible first | exact HB.out | apply below_alloc | apply pw_below_drewN | apply below_drew1) | exact HB.out)))); have n2_ := Aside0.mk (below_step (by repeat (first | (with_reducible first | exact HB.out | apply below_alloc | apply pw_below_drewN | apply below_drew1) | exact HB.out)) hb); clear HO156; clear HB; have HO156 := n0_; have HO160 := n1_; have HB := n2_; clear n0_ n1_ n2_; (try clear hb); (try clear hb2); (try clear hk); (try clear hi); (try clear ho0); obtain ⟨Ao22, co22, eo22⟩ := Kd.R_slice HO160.out; subst eo22) | (go_at_call 11; (with_reducible refine (dragomanref23_Same.calls kj4 _ _ l0 _ _ t157 false _ ?side1 ?side2 ?side3 ?side4 A15.out).mono ?_); (case side1 => repeat (first | exact (Kd.C_below HR0.out HB.out) | (with_reducible refine Kd.C_alloc ?_ _) | (with_reducible refine Kd.C_drewN ?_ _) | (with_reducible refine Kd.C_drew ?_))); (case side2 => exact HC0.out); (case side3 => repeat (first | exact (Kd.R_reads' HO160.out).2.2 | (with_reducible refine Kd.C_alloc ?_ _) | (with_reducible refine Kd.C_drewN ?_ _) | (with_reducible refine Kd.C_drew ?_))); (case side4 => exact (Kd.R_reads' HO160.out).2.1); rintro e w' ⟨rfl, ⟨nd, rfl⟩⟩))
                  go_ret
                  exact ⟨by first | rfl | (simp [errW_none, errW_some] <;> rfl) | (simp [*, errW_none, errW_some] <;> rfl), by repeat (first | (with_reducible first | exact HB.out | apply below_alloc | apply pw_below_drewN | apply below_drew1) | exact HB.out)⟩
              · rw [if_neg c14] at H
                have c14b0 : (t158 == 0) = false := beq_eq_false_iff_ne.mpr c14
                have c14b1 : (t158 != 0) = true := bne_iff_ne.mpr c14
                obtain rfl := Option.some.inj H
                obtain ⟨Ao23, co23, eo23⟩ := Kd.R_slice HO156.out
                subst eo23
                go_wp2_with (first | ((with_reducible refine gate_callee (f := 14) rfl ?_); refine goesL_ (some 35) rfl rfl Try.func14 (by kernel_rfl) rfl #[.slice Ao23 t153.length co23] rfl (by (try simp only [List.map_toArray, List.map_cons, List.map_nil]); first | done | rfl | (simp only [List.length_drop, List.length_take]; rfl)) ?_; (with_reducible refine (nlri_Read.calls _ _ t153 t157 t158 _ ?side1 ?side2 A13.out).mono ?_); (case side1 => repeat (first | exact (Kd.R_reads' HO156.out).2.2 | (with_reducible refine Kd.C_alloc ?_ _) | (with_reducible refine Kd.C_drewN ?_ _) | (with_reducible refine Kd.C_drew ?_))); (case side2 => exact (Kd.R_reads' HO156.out).2.1); rintro e w24 ⟨v159, rfl, ho0, hb⟩; refine ⟨_, rfl, ?_⟩; have n0_ := Aside0.mk (Kd.R_below (by (with_reducible repeat (first | apply Kd.R_alloc | apply Kd.R_drewN | apply Kd.R_drew)); exact HO156.out) hb); have n1_ := Aside0.mk (Kd.R_lower ho0 (below_size (by repeat (first | (with_reducible first | exact HB.out | apply below_alloc | apply pw_below_drewN | apply below_drew1) | exact HB.out)))); have n2_ := Aside0.mk (below_step (by repeat (first | (with_reducible first | exact HB.out | apply below_alloc | apply pw_below_drewN | apply below_drew1) | exact HB.out)) hb); clear HO156; clear HB; have HO156 := n0_; have HO160 := n1_; have HB := n2_; clear n0_ n1_ n2_; (try clear hb); (try clear hb2); (try clear hk); (try clear hi); (try clear ho0)))
                go_ret
                exact ⟨by first | rfl | (simp [errW_none, errW_some] <;> rfl) | (simp [*, errW_none, errW_some] <;> rfl), by repeat (first | (with_reducible first | exact HB.out | apply below_alloc | apply pw_below_drewN | apply below_drew1) | exact HB.out)⟩
            · rw [if_neg c12] at H
              have c12b0 : (t154 == 0) = false := beq_eq_false_iff_ne.mpr c12
              have c12b1 : (t154 != 0) = true := bne_iff_ne.mpr c12
              (first | rw [c12b0] | (simp only [i64_w, i32_w]; rw [c12b0]) | skip)
              have H' := Aside0.mk H
              clear H
              go_wp2
              go_meet
              case rel => exact ⟨_, H', ⟨by have := HJ4.out; first | omega | exact Nat.le_refl _⟩, ⟨by repeat (first | (with_reducible first | exact HB.out | apply below_alloc | apply pw_below_drewN | apply below_drew1) | exact HB.out)⟩⟩
          case rest =>
            clear HC10
            try clear c1
            try clear p2
            try clear c4
            try clear c5
            try clear c7
            try clear c7b0
            try clear c7b1
            try clear c8
            try clear c12
            try clear c12b0
            try clear c12b1
            try clear c14
            try clear c14b0
            try clear c14b1
            try clear c16
            try clear p2
            obtain ⟨kq, HA, HJ9, HB⟩ := hcut
            cases kq with
            | zero => exact absurd HA.out (by simp [dragomanlaw23_NlriBack.j1])
            | succ kj9 =>
              have H := HA.out
              clear HA
              simp only [dragomanlaw23_NlriBack.j1] at H
              replace H := Option.bind_eq_some_iff.mp H
              obtain ⟨⟨t162, t163⟩, A250, H⟩ := H
              replace H : (if t163 = 0 then (dragomanlaw23_NlriBack.l0 kj9 l1 t162 0 t162 (t162.length : Int) 0) else (some ((t162.length : Int) == 0))) = some r := H
              have A25 := Aside0.mk A250
              clear A250
              by_cases c26 : t163 = 0
              · rw [if_pos c26] at H
                have c26b0 : (t163 == 0) = true := beq_iff_eq.mpr c26
                have c26b1 : (t163 != 0) = false := bne_eq_false_iff_eq.mpr c26
                clear c26
                have H' := Aside0.mk H
                clear H
                go_wp2_with (first | ((with_reducible refine gate_callee (f := 14) rfl ?_); refine goesL_ (some 48) rfl rfl Try.func14 (by kernel_rfl) rfl #[.slice A1 l1.length c1] rfl (by (try simp only [List.map_toArray, List.map_cons, List.map_nil]); first | done | rfl | (simp only [List.length_drop, List.length_take]; rfl)) ?_; (with_reducible refine (nlri_Read.calls _ _ l1 t162 t163 _ ?side1 ?side2 A25.out).mono ?_); (case side1 => repeat (first | exact (Kd.C_below HR1.out HB.out) | (with_reducible refine Kd.C_alloc ?_ _) | (with_reducible refine Kd.C_drewN ?_ _) | (with_reducible refine Kd.C_drew ?_))); (case side2 => exact HC1.out); rintro e w27 ⟨v164, rfl, ho0, hb⟩; refine ⟨_, rfl, ?_⟩; have n0_ := Aside0.mk (Kd.R_lower ho0 (below_size (by repeat (first | (with_reducible first | exact HB.out | apply below_alloc | apply pw_below_drewN | apply below_drew1) | exact HB.out)))); have n1_ := Aside0.mk (below_step (by repeat (first | (with_reducible first | exact HB.out | apply below_alloc | apply pw_below_drewN | apply below_drew1) | exact HB.out)) hb); clear HB; have HO165 := n0_; have HB := n1_; clear n0_ n1_; (try clear hb); (try clear hb2); (try clear hk); (try clear hi); (try clear ho0); obtain ⟨Ao28, co28, eo28⟩ := Kd.R_slice HO165.out; subst eo28))
                go_loopg [11, 58] kj9 (fun kq v11 v58 w' => ∃ (x11_3 : Int) (x58_3 : Int), v11 = .int .i64 x11_3 ∧ v58 = .int .i64 x58_3 ∧ Aside0 (dragomanlaw23_NlriBack.l0 kq l1 t162 x11_3 t162 (t162.length : Int) x58_3 = some r) ∧ Aside0 (kq ≤ kj9) ∧ Aside0 (Kd.R k34 34 w' w.heap.size (fun _ => True) (.slice Ao28 t162.length co28) t162) ∧ Aside0 (Kd.R k34 34 w' w.heap.size (fun _ => True) (.slice Ao28 t162.length co28) t162) ∧ Aside0 (Below w.heap.size w w'))
                case atStart => exact ⟨(0), (0), (by first | rfl | (simp; done) | (simp [*]; done)), (by first | rfl | (simp; done) | (simp [*]; done)), H', ⟨Nat.le_refl _⟩, ⟨by (with_reducible repeat (first | apply Kd.R_alloc | apply Kd.R_drewN | apply Kd.R_drew)); exact HO165.out⟩, ⟨by (with_reducible repeat (first | apply Kd.R_alloc | apply Kd.R_drewN | apply Kd.R_drew)); exact HO165.out⟩, ⟨by repeat (first | (with_reducible first | exact HB.out | apply below_alloc | apply pw_below_drewN | apply below_drew1) | exact HB.out)⟩⟩
                case round =>
                  clear H'
                  try clear c1
                  try clear c2
                  try clear p2
                  try clear c4
                  try clear c5
                  try clear c7
                  try clear c7b0
                  try clear c7b1
                  try clear c8
                  try clear c12
                  try clear c12b0
                  try clear c12b1
                  try clear c14
                  try clear c14b0
                  try clear c14b1
                  try clear c16
                  try clear c26
                  try clear c26b0
                  try clear c26b1
                  try clear p2
                  obtain ⟨x11_3, x58_3, rfl, rfl, HA, HK3, HO_9, HO_56, HB⟩ := hrel
                  cases gk with
                  | zero => exact absurd HA.out (by simp [dragomanlaw23_NlriBack.l0])
                  | succ k3 =>
                    have H := HA.out
                    clear HA
                    simp only [dragomanlaw23_NlriBack.l0] at H
                    by_cases c29 : x58_3 < (t162.length : Int)
                    · rw [if_pos c29] at H
                      have c29b0 : decide (x58_3 < (t162.length : Int)) = true := decide_eq_true c29
                      clear c29
                      by_cases c30 : 0 ≤ x58_3
                      · rw [if_pos c30] at H
                        have c30b0 : decide (0 ≤ x58_3) = true := decide_eq_true c30
                        clear c30
                        by_cases c31 : x58_3 < (t162.length : Int)
                        · rw [if_pos c31] at H
                          have c31b0 : decide (x58_3 < (t162.length : Int)) = true := decide_eq_true c31
                          clear c31
                          replace H := Option.bind_eq_some_iff.mp H
                          obtain ⟨t172, A320, H⟩ := H
                          replace H : (if t172 = true then ((nlri_Size.f ((rd_T34 t162 x58_3).f0) ((rd_T34 t162 x58_3).f1)).bind fun t173 => (dragomanlaw23_NlriBack.l0 k3 l1 t162 (wrap64 (x11_3 + t173)) t162 (t162.length : Int) (wrap64 (x58_3 + 1)))) else (some false)) = some r := H
                          have A32 := Aside0.mk A320
                          clear A320
                          by_cases c33 : t172 = true
                          · subst c33
                            have H1 : ((nlri_Size.f ((rd_T34 t162 x58_3).f0) ((rd_T34 t162 x58_3).f1)).bind fun t173 => (dragomanlaw23_NlriBack.l0 k3 l1 t162 (wrap64 (x11_3 + t173)) t162 (t162.length : Int) (wrap64 (x58_3 + 1)))) = some r := by rw [if_pos rfl] at H; exact H
                            clear H
                            have H := H1
                            clear H1
                            replace H := Option.bind_eq_some_iff.mp H
                            obtain ⟨t173, A340, H⟩ := H
                            replace H : (dragomanlaw23_NlriBack.l0 k3 l1 t162 (wrap64 (x11_3 + t173)) t162 (t162.length : Int) (wrap64 (x58_3 + 1))) = some r := H
                            have A34 := Aside0.mk A340
                            clear A340
                            have H' := Aside0.mk H
                            clear H
                            have p170 : 0 ≤ (x58_3 : Int) := of_decide_eq_true (by first | (with_reducible assumption) | assumption)
                            have q170 : x58_3 < (t162.length : Int) := of_decide_eq_true (by first | (with_reducible assumption) | assumption)
                            obtain ⟨ad170, e170, hx170_0, hx170_1⟩ := at_T34 (Kd.R_reads' HO_56.out).2.2 x58_3 p170 q170
                            cases e170
                            replace p170 := eq_true p170
                            replace q170 := eq_true q170
                            go_wp2_with (first | ((with_reducible refine gate_dst (N := 13) rfl ?_); (try (refine gate_guard (by rfl) ?_; dsimp only)); refine box_event ?hg (N := 13) ?hd (cs := #[.int .u32 0, .int .i64 0]) (t := 34) ?hr ?_; (case hd => rfl); (case hg => rfl); (case hr => first | (go_simp; done) | (go_simp; rfl)); intro gb171 hg w35 hbox hb; have n0_ := Aside0.mk (Kd.R_below (Kd.R_elderB (by (with_reducible repeat (first | apply Kd.R_alloc | apply Kd.R_drewN | apply Kd.R_drew)); exact HO_9.out) gb171 (Nat.le_of_eq hg.symm)) hb); have n1_ := Aside0.mk (Kd.R_below (Kd.R_elderB (by (with_reducible repeat (first | apply Kd.R_alloc | apply Kd.R_drewN | apply Kd.R_drew)); exact HO_56.out) gb171 (Nat.le_of_eq hg.symm)) hb); have n2_ := Aside0.mk (below_step (by repeat (first | (with_reducible first | exact HB.out | apply below_alloc | apply pw_below_drewN | apply below_drew1) | exact HB.out)) hb); have n3_ := Aside0.mk (hbox); have n4_ := Aside0.mk ((by rw [hg]; exact (below_size (by repeat (first | (with_reducible first | exact HB.out | apply below_alloc | apply pw_below_drewN | apply below_drew1) | exact HB.out))) : w.heap.size ≤ gb171)); have n5_ := Aside0.mk ((by rw [hg]; exact (below_size (by repeat (first | (with_reducible first | exact HB.out | apply below_alloc | apply pw_below_drewN | apply below_drew1) | exact HB.out))) : w.heap.size ≤ gb171)); clear HO_9; clear HO_56; clear HB; have HO_9 := n0_; have HO_56 := n1_; have HB := n2_; have BK171 := n3_; have GW171 := n4_; have GE171 := n5_; clear n0_ n1_ n2_ n3_ n4_ n5_; clear hb hbox hg; have hcz36_0 : w35.cell? ⟨gb171, 0, none⟩ = some (.int .u32 0) := (blk_cell BK171.out 0).trans rfl; have hcz36_1 : w35.cell? ⟨gb171, 1, none⟩ = some (.int .i64 0) := (blk_cell BK171.out 1).trans rfl; have hfz36_0 := blk_frozen BK171.out 0; have hfz36_1 := blk_frozen BK171.out 1) | ((with_reducible refine gate_callee (f := 16) rfl ?_); refine goesL_ (some 63) rfl rfl Try.func16 (by kernel_rfl) rfl #[.agg #[.int .u32 ((rd_T34 t162 x58_3).f0), .int .i64 ((rd_T34 t162 x58_3).f1)]] rfl (by (try simp only [List.map_toArray, List.map_cons, List.map_nil]); first | done | rfl | (simp only [List.length_drop, List.length_take]; rfl)) ?_; (with_reducible refine (dragomanref03_Right.calls k3 ((rd_T34 t162 x58_3).f0) ((rd_T34 t162 x58_3).f1) true _ A32.out).mono ?_); rintro e w37 ⟨rfl, hb⟩; refine ⟨_, rfl, ?_⟩; have n0_ := Aside0.mk (Kd.R_below (by (with_reducible repeat (first | apply Kd.R_alloc | apply Kd.R_drewN | apply Kd.R_drew)); exact (Kd.R_mono (Kd.R_far (p := ⟨gb171, 1, none⟩) (Kd.R_far (p := ⟨gb171, 0, none⟩) (Kd.R_mono HO_9.out (fun k_ hk => (⟨hk, hk.2⟩ : _ ∧ k_ ≠ gb171))) (fun _ hk => hk.2) (.int .u32 ((rd_T34 t162 x58_3).f0))) (fun _ hk => hk.2) (.int .i64 ((rd_T34 t162 x58_3).f1))) (fun _ h_ => h_.1))) hb); have n1_ := Aside0.mk (Kd.R_below (by (with_reducible repeat (first | apply Kd.R_alloc | apply Kd.R_drewN | apply Kd.R_drew)); exact (Kd.R_mono (Kd.R_far (p := ⟨gb171, 1, none⟩) (Kd.R_far (p := ⟨gb171, 0, none⟩) (Kd.R_mono HO_56.out (fun k_ hk => (⟨hk, hk.2⟩ : _ ∧ k_ ≠ gb171))) (fun _ hk => hk.2) (.int .u32 ((rd_T34 t162 x58_3).f0))) (fun _ hk => hk.2) (.int .i64 ((rd_T34 t162 x58_3).f1))) (fun _ h_ => h_.1))) hb); have n2_ := Aside0.mk (blk_below (g := gb171) (o := .cells #[.int .u32 ((rd_T34 t162 x58_3).f0), .int .i64 ((rd_T34 t162 x58_3).f1)] 34 (0, 0)) (by (with_reducible repeat (first | refine blk_drewN ?_ _ | refine blk_drew ?_ | refine blk_alloc ?_ _)); refine blk_put (cs := #[.int .u32 ((rd_T34 t162 x58_3).f0), .int .i64 0]) ?_ 1 _ rfl; (with_reducible repeat (first | refine blk_drewN ?_ _ | refine blk_drew ?_ | refine blk_alloc ?_ _)); refine blk_put (cs := #[.int .u32 0, .int .i64 0]) ?_ 0 _ rfl; (with_reducible repeat (first | refine blk_drewN ?_ _ | refine blk_drew ?_ | refine blk_alloc ?_ _)); exact BK171.out) hb); have n3_ := Aside0.mk (below_step (by repeat (first | (with_reducible first | exact HB.out | apply below_alloc | apply pw_below_drewN | apply below_drew1 | refine below_set ?_ GE171.out) | exact HB.out)) hb); clear HO_9; clear HO_56; clear BK171; clear HB; have HO_9 := n0_; have HO_56 := n1_; have BK171 := n2_; have HB := n3_; clear n0_ n1_ n2_ n3_; (try clear hb); (try clear hb2); (try clear hk); (try clear hi); have hcz38_0 : w37.cell? ⟨gb171, 0, none⟩ = some (.int .u32 ((rd_T34 t162 x58_3).f0)) := (blk_cell BK171.out 0).trans rfl; have hcz38_1 : w37.cell? ⟨gb171, 1, none⟩ = some (.int .i64 ((rd_T34 t162 x58_3).f1)) := (blk_cell BK171.out 1).trans rfl; have hfz38_0 := blk_frozen BK171.out 0; have hfz38_1 := blk_frozen BK171.out 1) | ((with_reducible refine gate_callee (f := 12) rfl ?_); refine goesL_ (some 67) rfl rfl Try.func12 (by kernel_rfl) rfl #[.agg #[.int .u32 ((rd_T34 t162 x58_3).f0), .int .i64 ((rd_T34 t162 x58_3).f1)]] rfl (by (try simp only [List.map_toArray, List.map_cons, List.map_nil]); first | done | rfl | (simp only [List.length_drop, List.length_take]; rfl)) ?_; (with_reducible refine (nlri_Size.calls ((rd_T34 t162 x58_3).f0) ((rd_T34 t162 x58_3).f1) t173 _ A34.out).mono ?_); rintro e w39 ⟨rfl, hb⟩; refine ⟨_, rfl, ?_⟩; have n0_ := Aside0.mk (Kd.R_below (by (with_reducible repeat (first | apply Kd.R_alloc | apply Kd.R_drewN | apply Kd.R_drew)); exact HO_9.out) hb); have n1_ := Aside0.mk (Kd.R_below (by (with_reducible repeat (first | apply Kd.R_alloc | apply Kd.R_drewN | apply Kd.R_drew)); exact HO_56.out) hb); have n2_ := Aside0.mk (blk_below (g := gb171) (o := .cells #[.int .u32 ((rd_T34 t162 x58_3).f0), .int .i64 ((rd_T34 t162 x58_3).f1)] 34 (0, 0)) (by (with_reducible repeat (first | refine blk_drewN ?_ _ | refine blk_drew ?_ | refine blk_alloc ?_ _)); exact BK171.out) hb); have n3_ := Aside0.mk (below_step (by repeat (first | (with_reducible first | exact HB.out | apply below_alloc | apply pw_below_drewN | apply below_drew1 | refine below_set ?_ GE171.out) | exact HB.out)) hb); clear HO_9; clear HO_56; clear BK171; clear HB; have HO_9 := n0_; have HO_56 := n1_; have BK171 := n2_; have HB := n3_; clear n0_ n1_ n2_ n3_; (try clear hb); (try clear hb2); (try clear hk); (try clear hi)))
                            go_roundg k3
                            case measure => have := HJ4.out; have := HJ9.out; have := HK3.out; omega
                            case rel => exact ⟨(wrap64 (x11_3 + t173)), (wrap64 (x58_3 + 1)), (by first | rfl | (simp; done) | (simp [*]; done)), (by first | rfl | (simp; done) | (simp [*]; done)), H', ⟨by have := HJ4.out; have := HJ9.out; have := HK3.out; omega⟩, ⟨by (with_reducible repeat (first | apply Kd.R_alloc | apply Kd.R_drewN | apply Kd.R_drew)); exact Kd.R_mono HO_9.out (fun _ hk => trivial)⟩, ⟨by (with_reducible repeat (first | apply Kd.R_alloc | apply Kd.R_drewN | apply Kd.R_drew)); exact Kd.R_mono HO_56.out (fun _ hk => trivial)⟩, ⟨by repeat (first | (with_reducible first | exact HB.out | apply below_alloc | apply pw_below_drewN | apply below_drew1 | refine below_set ?_ GE171.out) | exact HB.out)⟩⟩
                          · replace c33 := Bool.eq_false_iff.mpr c33
                            subst c33
                            have H1 : (some false) = some r := by rw [if_neg (show ¬ (false = true) by decide)] at H; exact H
                            clear H
                            have H := H1
                            clear H1
                            obtain rfl := Option.some.inj H
                            have p170 : 0 ≤ (x58_3 : Int) := of_decide_eq_true (by first | (with_reducible assumption) | assumption)
                            have q170 : x58_3 < (t162.length : Int) := of_decide_eq_true (by first | (with_reducible assumption) | assumption)
                            obtain ⟨ad170, e170, hx170_0, hx170_1⟩ := at_T34 (Kd.R_reads' HO_56.out).2.2 x58_3 p170 q170
                            cases e170
                            replace p170 := eq_true p170
                            replace q170 := eq_true q170
                            go_wp2_with (first | ((with_reducible refine gate_dst (N := 13) rfl ?_); (try (refine gate_guard (by rfl) ?_; dsimp only)); refine box_event ?hg (N := 13) ?hd (cs := #[.int .u32 0, .int .i64 0]) (t := 34) ?hr ?_; (case hd => rfl); (case hg => rfl); (case hr => first | (go_simp; done) | (go_simp; rfl)); intro gb171 hg w40 hbox hb; have n0_ := Aside0.mk (Kd.R_below (Kd.R_elderB (by (with_reducible repeat (first | apply Kd.R_alloc | apply Kd.R_drewN | apply Kd.R_drew)); exact HO_9.out) gb171 (Nat.le_of_eq hg.symm)) hb); have n1_ := Aside0.mk (Kd.R_below (Kd.R_elderB (by (with_reducible repeat (first | apply Kd.R_alloc | apply Kd.R_drewN | apply Kd.R_drew)); exact HO_56.out) gb171 (Nat.le_of_eq hg.symm)) hb); have n2_ := Aside0.mk (below_step (by repeat (first | (with_reducible first | exact HB.out | apply below_alloc | apply pw_below_drewN | apply below_drew1) | exact HB.out)) hb); have n3_ := Aside0.mk (hbox); have n4_ := Aside0.mk ((by rw [hg]; exact (below_size (by repeat (first | (with_reducible first | exact HB.out | apply below_alloc | apply pw_below_drewN | apply below_drew1) | exact HB.out))) : w.heap.size ≤ gb171)); have n5_ := Aside0.mk ((by rw [hg]; exact (below_size (by repeat (first | (with_reducible first | exact HB.out | apply below_alloc | apply pw_below_drewN | apply below_drew1) | exact HB.out))) : w.heap.size ≤ gb171)); clear HO_9; clear HO_56; clear HB; have HO_9 := n0_; have HO_56 := n1_; have HB := n2_; have BK171 := n3_; have GW171 := n4_; have GE171 := n5_; clear n0_ n1_ n2_ n3_ n4_ n5_; clear hb hbox hg; have hcz41_0 : w40.cell? ⟨gb171, 0, none⟩ = some (.int .u32 0) := (blk_cell BK171.out 0).trans rfl; have hcz41_1 : w40.cell? ⟨gb171, 1, none⟩ = some (.int .i64 0) := (blk_cell BK171.out 1).trans rfl; have hfz41_0 := blk_frozen BK171.out 0; have hfz41_1 := blk_frozen BK171.out 1) | ((with_reducible refine gate_callee (f := 16) rfl ?_); refine goesL_ (some 63) rfl rfl Try.func16 (by kernel_rfl) rfl #[.agg #[.int .u32 ((rd_T34 t162 x58_3).f0), .int .i64 ((rd_T34 t162 x58_3).f1)]] rfl (by (try simp only [List.map_toArray, List.map_cons, List.map_nil]); first | done | rfl | (simp only [List.length_drop, List.length_take]; rfl)) ?_; (with_reducible refine (dragomanref03_Right.calls k3 ((rd_T34 t162 x58_3).f0) ((rd_T34 t162 x58_3).f1) false _ A32.out).mono ?_); rintro e w42 ⟨rfl, hb⟩; refine ⟨_, rfl, ?_⟩; have n0_ := Aside0.mk (Kd.R_below (by (with_reducible repeat (first | apply Kd.R_alloc | apply Kd.R_drewN | apply Kd.R_drew)); exact (Kd.R_mono (Kd.R_far (p := ⟨gb171, 1, none⟩) (Kd.R_far (p := ⟨gb171, 0, none⟩) (Kd.R_mono HO_9.out (fun k_ hk => (⟨hk, hk.2⟩ : _ ∧ k_ ≠ gb171))) (fun _ hk => hk.2) (.int .u32 ((rd_T34 t162 x58_3).f0))) (fun _ hk => hk.2) (.int .i64 ((rd_T34 t162 x58_3).f1))) (fun _ h_ => h_.1))) hb); have n1_ := Aside0.mk (Kd.R_below (by (with_reducible repeat (first | apply Kd.R_alloc | apply Kd.R_drewN | apply Kd.R_drew)); exact (Kd.R_mono (Kd.R_far (p := ⟨gb171, 1, none⟩) (Kd.R_far (p := ⟨gb171, 0, none⟩) (Kd.R_mono HO_56.out (fun k_ hk => (⟨hk, hk.2⟩ : _ ∧ k_ ≠ gb171))) (fun _ hk => hk.2) (.int .u32 ((rd_T34 t162 x58_3).f0))) (fun _ hk => hk.2) (.int .i64 ((rd_T34 t162 x58_3).f1))) (fun _ h_ => h_.1))) hb); have n2_ := Aside0.mk (blk_below (g := gb171) (o := .cells #[.int .u32 ((rd_T34 t162 x58_3).f0), .int .i64 ((rd_T34 t162 x58_3).f1)] 34 (0, 0)) (by (with_reducible repeat (first | refine blk_drewN ?_ _ | refine blk_drew ?_ | refine blk_alloc ?_ _)); refine blk_put (cs := #[.int .u32 ((rd_T34 t162 x58_3).f0), .int .i64 0]) ?_ 1 _ rfl; (with_reducible repeat (first | refine blk_drewN ?_ _ | refine blk_drew ?_ | refine blk_alloc ?_ _)); refine blk_put (cs := #[.int .u32 0, .int .i64 0]) ?_ 0 _ rfl; (with_reducible repeat (first | refine blk_drewN ?_ _ | refine blk_drew ?_ | refine blk_alloc ?_ _)); exact BK171.out) hb); have n3_ := Aside0.mk (below_step (by repeat (first | (with_reducible first | exact HB.out | apply below_alloc | apply pw_below_drewN | apply below_drew1 | refine below_set ?_ GE171.out) | exact HB.out)) hb); clear HO_9; clear HO_56; clear BK171; clear HB; have HO_9 := n0_; have HO_56 := n1_; have BK171 := n2_; have HB := n3_; clear n0_ n1_ n2_ n3_; (try clear hb); (try clear hb2); (try clear hk); (try clear hi)))
                            go_ret
                            exact ⟨by first | rfl | (simp [errW_none, errW_some] <;> rfl) | (simp [*, errW_none, errW_some] <;> rfl), by repeat (first | (with_reducible first | exact HB.out | apply below_alloc | apply pw_below_drewN | apply below_drew1 | refine below_set ?_ GE171.out) | exact HB.out)⟩
                        · rw [if_neg c31] at H
                          exact absurd H (by simp)
                      · rw [if_neg c30] at H
                        exact absurd H (by simp)
                    · rw [if_neg c29] at H
                      have c29b0 : decide (x58_3 < (t162.length : Int)) = false := decide_eq_false c29
                      clear c29
                      replace H := Option.bind_eq_some_iff.mp H
                      obtain ⟨⟨t166, t167⟩, A430, H⟩ := H
                      replace H : (if t167 = 0 then (if (t166.length : Int) = (l1.length : Int) then (some (x11_3 == (l1.length : Int))) else (some false)) else (some false)) = some r := H
                      have A43 := Aside0.mk A430
                      clear A430
                      by_cases c44 : t167 = 0
                      · rw [if_pos c44] at H
                        have c44b0 : (t167 == 0) = true := beq_iff_eq.mpr c44
                        have c44b1 : (t167 != 0) = false := bne_eq_false_iff_eq.mpr c44
                        clear c44
                        by_cases c45 : (t166.length : Int) = (l1.length : Int)
                        · rw [if_pos c45] at H
                          have c45b0 : ((t166.length : Int) == (l1.length : Int)) = true := beq_iff_eq.mpr c45
                          have c45b1 : ((t166.length : Int) != (l1.length : Int)) = false := bne_eq_false_iff_eq.mpr c45
                          have c45b2 : (t166.length == l1.length) = true := by first | simpa using c45 | (simp at c45 ⊢; omega)
                          clear c45
                          obtain rfl := Option.some.inj H
                          go_wp2_with (first | ((with_reducible refine gate_callee (f := 8) rfl ?_); refine goesL_ (some 72) rfl rfl Try.func8 (by kernel_rfl) rfl #[.slice Ao28 t162.length co28] rfl (by (try simp only [List.map_toArray, List.map_cons, List.map_nil]); first | done | rfl | (simp only [List.length_drop, List.length_take]; rfl)) ?_; (with_reducible refine (nlri_Put.calls _ _ t162 t166 t167 _ ?side1 ?side2 A43.out).mono ?_); (case side1 => repeat (first | exact (Kd.R_reads' HO_9.out).2.2 | (with_reducible refine Kd.C_alloc ?_ _) | (with_reducible refine Kd.C_drewN ?_ _) | (with_reducible refine Kd.C_drew ?_))); (case side2 => exact (Kd.R_reads' HO_9.out).2.1); rintro e w46 ⟨v168, rfl, ho0, hb⟩; refine ⟨_, rfl, ?_⟩; have n0_ := Aside0.mk (Kd.R_below (by (with_reducible repeat (first | apply Kd.R_alloc | apply Kd.R_drewN | apply Kd.R_drew)); exact HO_9.out) hb); have n1_ := Aside0.mk (Kd.R_below (by (with_reducible repeat (first | apply Kd.R_alloc | apply Kd.R_drewN | apply Kd.R_drew)); exact HO_56.out) hb); have n2_ := Aside0.mk (Kd.R_lower ho0 (below_size (by repeat (first | (with_reducible first | exact HB.out | apply below_alloc | apply pw_below_drewN | apply below_drew1) | exact HB.out)))); have n3_ := Aside0.mk (below_step (by repeat (first | (with_reducible first | exact HB.out | apply below_alloc | apply pw_below_drewN | apply below_drew1) | exact HB.out)) hb); clear HO_9; clear HO_56; clear HB; have HO_9 := n0_; have HO_56 := n1_; have HO169 := n2_; have HB := n3_; clear n0_ n1_ n2_ n3_; (try clear hb); (try clear hb2); (try clear hk); (try clear hi); (try clear ho0); obtain ⟨Ao47, co47, eo47⟩ := Kd.R_slice HO169.out; subst eo47))
                          go_ret
                          exact ⟨by first | rfl | (simp [errW_none, errW_some] <;> rfl) | (simp [*, errW_none, errW_some] <;> rfl), by repeat (first | (with_reducible first | exact HB.out | apply below_alloc | apply pw_below_drewN | apply below_drew1) | exact HB.out)⟩
                        · rw [if_neg c45] at H
                          have c45b0 : ((t166.length : Int) == (l1.length : Int)) = false := beq_eq_false_iff_ne.mpr c45
                          have c45b1 : ((t166.length : Int) != (l1.length : Int)) = true := bne_iff_ne.mpr c45
                          have c45b2 : (t166.length == l1.length) = false := by first | simpa using c45 | (simp at c45 ⊢; omega)
                          obtain rfl := Option.some.inj H
                          go_wp2_with (first | ((with_reducible refine gate_callee (f := 8) rfl ?_); refine goesL_ (some 72) rfl rfl Try.func8 (by kernel_rfl) rfl #[.slice Ao28 t162.length co28] rfl (by (try simp only [List.map_toArray, List.map_cons, List.map_nil]); first | done | rfl | (simp only [List.length_drop, List.length_take]; rfl)) ?_; (with_reducible refine (nlri_Put.calls _ _ t162 t166 t167 _ ?side1 ?side2 A43.out).mono ?_); (case side1 => repeat (first | exact (Kd.R_reads' HO_9.out).2.2 | (with_reducible refine Kd.C_alloc ?_ _) | (with_reducible refine Kd.C_drewN ?_ _) | (with_reducible refine Kd.C_drew ?_))); (case side2 => exact (Kd.R_reads' HO_9.out).2.1); rintro e w48 ⟨v168, rfl, ho0, hb⟩; refine ⟨_, rfl, ?_⟩; have n0_ := Aside0.mk (Kd.R_below (by (with_reducible repeat (first | apply Kd.R_alloc | apply Kd.R_drewN | apply Kd.R_drew)); exact HO_9.out) hb); have n1_ := Aside0.mk (Kd.R_below (by (with_reducible repeat (first | apply Kd.R_alloc | apply Kd.R_drewN | apply Kd.R_drew)); exact HO_56.out) hb); have n2_ := Aside0.mk (Kd.R_lower ho0 (below_size (by repeat (first | (with_reducible first | exact HB.out | apply below_alloc | apply pw_below_drewN | apply below_drew1) | exact HB.out)))); have n3_ := Aside0.mk (below_step (by repeat (first | (with_reducible first | exact HB.out | apply below_alloc | apply pw_below_drewN | apply below_drew1) | exact HB.out)) hb); clear HO_9; clear HO_56; clear HB; have HO_9 := n0_; have HO_56 := n1_; have HO169 := n2_; have HB := n3_; clear n0_ n1_ n2_ n3_; (try clear hb); (try clear hb2); (try clear hk); (try clear hi); (try clear ho0); obtain ⟨Ao49, co49, eo49⟩ := Kd.R_slice HO169.out; subst eo49))
                          go_ret
                          exact ⟨by first | rfl | (simp [errW_none, errW_some] <;> rfl) | (simp [*, errW_none, errW_some] <;> rfl), by repeat (first | (with_reducible first | exact HB.out | apply below_alloc | apply pw_below_drewN | apply below_drew1) | exact HB.out)⟩
                      · rw [if_neg c44] at H
                        have c44b0 : (t167 == 0) = false := beq_eq_false_iff_ne.mpr c44
                        have c44b1 : (t167 != 0) = true := bne_iff_ne.mpr c44
                        obtain rfl := Option.some.inj H
                        go_wp2_with (first | ((with_reducible refine gate_callee (f := 8) rfl ?_); refine goesL_ (some 72) rfl rfl Try.func8 (by kernel_rfl) rfl #[.slice Ao28 t162.length co28] rfl (by (try simp only [List.map_toArray, List.map_cons, List.map_nil]); first | done | rfl | (simp only [List.length_drop, List.length_take]; rfl)) ?_; (with_reducible refine (nlri_Put.calls _ _ t162 t166 t167 _ ?side1 ?side2 A43.out).mono ?_); (case side1 => repeat (first | exact (Kd.R_reads' HO_9.out).2.2 | (with_reducible refine Kd.C_alloc ?_ _) | (with_reducible refine Kd.C_drewN ?_ _) | (with_reducible refine Kd.C_drew ?_))); (case side2 => exact (Kd.R_reads' HO_9.out).2.1); rintro e w50 ⟨v168, rfl, ho0, hb⟩; refine ⟨_, rfl, ?_⟩; have n0_ := Aside0.mk (Kd.R_below (by (with_reducible repeat (first | apply Kd.R_alloc | apply Kd.R_drewN | apply Kd.R_drew)); exact HO_9.out) hb); have n1_ := Aside0.mk (Kd.R_below (by (with_reducible repeat (first | apply Kd.R_alloc | apply Kd.R_drewN | apply Kd.R_drew)); exact HO_56.out) hb); have n2_ := Aside0.mk (Kd.R_lower ho0 (below_size (by repeat (first | (with_reducible first | exact HB.out | apply below_alloc | apply pw_below_drewN | apply below_drew1) | exact HB.out)))); have n3_ := Aside0.mk (below_step (by repeat (first | (with_reducible first | exact HB.out | apply below_alloc | apply pw_below_drewN | apply below_drew1) | exact HB.out)) hb); clear HO_9; clear HO_56; clear HB; have HO_9 := n0_; have HO_56 := n1_; have HO169 := n2_; have HB := n3_; clear n0_ n1_ n2_ n3_; (try clear hb); (try clear hb2); (try clear hk); (try clear hi); (try clear ho0)))
                        go_ret
                        exact ⟨by first | rfl | (simp [errW_none, errW_some] <;> rfl) | (simp [*, errW_none, errW_some] <;> rfl), by repeat (first | (with_reducible first | exact HB.out | apply below_alloc | apply pw_below_drewN | apply below_drew1) | exact HB.out)⟩
              · rw [if_neg c26] at H
                have c26b0 : (t163 == 0) = false := beq_eq_false_iff_ne.mpr c26
                have c26b1 : (t163 != 0) = true := bne_iff_ne.mpr c26
                obtain rfl := Option.some.inj H
                go_wp2_with (first | ((with_reducible refine gate_callee (f := 14) rfl ?_); refine goesL_ (some 48) rfl rfl Try.func14 (by kernel_rfl) rfl #[.slice A1 l1.length c1] rfl (by (try simp only [List.map_toArray, List.map_cons, List.map_nil]); first | done | rfl | (simp only [List.length_drop, List.length_take]; rfl)) ?_; (with_reducible refine (nlri_Read.calls _ _ l1 t162 t163 _ ?side1 ?side2 A25.out).mono ?_); (case side1 => repeat (first | exact (Kd.C_below HR1.out HB.out) | (with_reducible refine Kd.C_alloc ?_ _) | (with_reducible refine Kd.C_drewN ?_ _) | (with_reducible refine Kd.C_drew ?_))); (case side2 => exact HC1.out); rintro e w51 ⟨v164, rfl, ho0, hb⟩; refine ⟨_, rfl, ?_⟩; have n0_ := Aside0.mk (Kd.R_lower ho0 (below_size (by repeat (first | (with_reducible first | exact HB.out | apply below_alloc | apply pw_below_drewN | apply below_drew1) | exact HB.out)))); have n1_ := Aside0.mk (below_step (by repeat (first | (with_reducible first | exact HB.out | apply below_alloc | apply pw_below_drewN | apply below_drew1) | exact HB.out)) hb); clear HB; have HO165 := n0_; have HB := n1_; clear n0_ n1_; (try clear hb); (try clear hb2); (try clear hk); (try clear hi); (try clear ho0); obtain ⟨Ao52, co52, eo52⟩ := Kd.R_slice HO165.out; subst eo52))
                go_ret
                exact ⟨by first | rfl | (simp [errW_none, errW_some] <;> rfl) | (simp [*, errW_none, errW_some] <;> rfl), by repeat (first | (with_reducible first | exact HB.out | apply below_alloc | apply pw_below_drewN | apply below_drew1) | exact HB.out)⟩
  · replace c4 := Bool.eq_false_iff.mpr c4
    subst c4
    have H1 : (some false) = some r := by rw [if_neg (show ¬ (false = true) by decide)] at H; exact H
    clear H
    have H := H1
    clear H1
    obtain rfl := Option.some.inj H
    go_enter Try.func5, Try.ntmps5
    go_wp2_with (first | ((with_reducible refine gate_callee (f := 7) rfl ?_); refine goesL_ (some 16) rfl rfl Try.func7 (by kernel_rfl) rfl #[] rfl (by (try simp only [List.map_toArray, List.map_cons, List.map_nil]); first | done | rfl | (simp only [List.length_drop, List.length_take]; rfl)) ?_; (with_reducible refine (dragomanlaw23_alive.calls k  false _ A3.out).mono ?_); rintro e w53 ⟨rfl, hb⟩; refine ⟨_, rfl, ?_⟩; have n0_ := Aside0.mk (below_step (by repeat (first | (with_reducible first | exact HB.out | apply below_alloc | apply pw_below_drewN | apply below_drew1) | exact HB.out)) hb); clear HB; have HB := n0_; clear n0_; (try clear hb); (try clear hb2); (try clear hk); (try clear hi)))
    go_ret
    exact ⟨by first | rfl | (simp [errW_none, errW_some] <;> rfl) | (simp [*, errW_none, errW_some] <;> rfl), by repeat (first | (with_reducible first | exact HB.out | apply below_alloc | apply pw_below_drewN | apply below_drew1) | exact HB.out)⟩

end Go.Proofs.Ytpcjinapcmkbcaa.PNlriBack
