/- Written for this claim by a program of this session, after the kit's print. Not trusted: Lean checks it. -/
import Derived.Test.YtgljfjjainlhgaaPPfxPartsx0
import Derived.Test.YtgljfjjainlhgaaPPfxPartsx3
import Derived.Test.YtgljfjjainlhgaaPPfxPartsx5
import Derived.Test.YtgljfjjainlhgaaPPfxPartsx6
import Derived.Test.YtgljfjjainlhgaaPPfxPartsx7
namespace Go.Proofs.Ytgljfjjainlhgaa.PPfxParts
open Go.RowKit Go.Proofs.YtgljfjjainlhgaaW.PrintWords Go.Proofs.YtgljfjjainlhgaaW.PrintLast Go.Proofs.YtgljfjjainlhgaaW.PrintMore
attribute [local go_sem] max2_int min2_int max_two min_two max_three min_three max_four min_four   -- for this text's walks alone
set_option linter.unusedVariables false
set_option linter.unusedSimpArgs false

/-! ### dragomanlaw04_ten: function 27 -/
def dragomanlaw04_ten.f (a0 : Int) (a1 : Int) : Option (Int × Int × Int × Int) := some (167772160, 8, a0, a1)
set_option maxHeartbeats 8000000 in
set_option maxRecDepth 100000 in
theorem dragomanlaw04_ten.calls (a0 : Int) (a1 : Int) (r1 : Int) (r2 : Int) (r3 : Int) (r4 : Int) (w : World) (h : dragomanlaw04_ten.f a0 a1 = some (r1, r2, r3, r4)) :
    Calls Try.prog 27 #[.int .i64 a0, .int .i64 a1] w fun e w' => e = .returned (.agg #[.int .u32 r1, .int .i64 r2, .int .i64 r3, .int .i64 r4]) ∧ Below w.heap.size w w' := by
  have hu26 := Try.underlying26
  have hu24 := Try.underlying24
  have HB := Aside0.mk (Below.refl w.heap.size w)
  have H : (some (167772160, 8, a0, a1)) = some (r1, r2, r3, r4) := h
  clear h
  simp only [Option.some.injEq, Prod.mk.injEq] at H
  obtain ⟨rfl, rfl, rfl, rfl⟩ := H
  go_enter Try.func27, Try.ntmps27
  go_wp2_with (first | ((with_reducible refine gate_dst (N := 4) rfl ?_); refine box_event ?hg (N := 4) ?hd (cs := #[.int .u32 0, .int .i64 0, .int .i64 0, .int .i64 0]) (t := 26) ?hr ?_; (case hd => rfl); (case hg => rfl); (case hr => first | (go_simp; done) | (go_simp; rfl)); intro gb124 hg w3 hbox hb; have n0_ := Aside0.mk (below_step (by repeat (first | (with_reducible first | exact HB.out | apply below_alloc | apply pw_below_drewN | apply below_drew1) | exact HB.out)) hb); have n1_ := Aside0.mk (hbox); have n2_ := Aside0.mk ((by rw [hg]; exact (below_size (by repeat (first | (with_reducible first | exact HB.out | apply below_alloc | apply pw_below_drewN | apply below_drew1) | exact HB.out))) : w.heap.size ≤ gb124)); have n3_ := Aside0.mk ((by rw [hg]; exact (below_size (by repeat (first | (with_reducible first | exact HB.out | apply below_alloc | apply pw_below_drewN | apply below_drew1) | exact HB.out))) : w.heap.size ≤ gb124)); clear HB; have HB := n0_; have BK124 := n1_; have GW124 := n2_; have GE124 := n3_; clear n0_ n1_ n2_ n3_; clear hb hbox hg; have hcz4_0 : w3.cell? ⟨gb124, 0, none⟩ = some (.int .u32 0) := (blk_cell BK124.out 0).trans rfl; have hcz4_1 : w3.cell? ⟨gb124, 1, none⟩ = some (.int .i64 0) := (blk_cell BK124.out 1).trans rfl; have hcz4_2 : w3.cell? ⟨gb124, 2, none⟩ = some (.int .i64 0) := (blk_cell BK124.out 2).trans rfl; have hcz4_3 : w3.cell? ⟨gb124, 3, none⟩ = some (.int .i64 0) := (blk_cell BK124.out 3).trans rfl; have hfz4_0 := blk_frozen BK124.out 0; have hfz4_1 := blk_frozen BK124.out 1; have hfz4_2 := blk_frozen BK124.out 2; have hfz4_3 := blk_frozen BK124.out 3))
  refine bodyPost_ret (results_cell_row rfl _ _ gb124 26 #[.int .u32 167772160, .int .i64 8, .int .i64 a0, .int .i64 a1] (0, 0) _ rfl (by (with_reducible repeat (first | refine blk_drewN ?_ _ | refine blk_drew ?_ | refine blk_alloc ?_ _)); refine blk_put (cs := #[.int .u32 167772160, .int .i64 8, .int .i64 a0, .int .i64 0]) ?_ 3 _ rfl; (with_reducible repeat (first | refine blk_drewN ?_ _ | refine blk_drew ?_ | refine blk_alloc ?_ _)); refine blk_put (cs := #[.int .u32 167772160, .int .i64 8, .int .i64 0, .int .i64 0]) ?_ 2 _ rfl; (with_reducible repeat (first | refine blk_drewN ?_ _ | refine blk_drew ?_ | refine blk_alloc ?_ _)); refine blk_put (cs := #[.int .u32 167772160, .int .i64 0, .int .i64 0, .int .i64 0]) ?_ 1 _ rfl; (with_reducible repeat (first | refine blk_drewN ?_ _ | refine blk_drew ?_ | refine blk_alloc ?_ _)); refine blk_put (cs := #[.int .u32 0, .int .i64 0, .int .i64 0, .int .i64 0]) ?_ 0 _ rfl; (with_reducible repeat (first | refine blk_drewN ?_ _ | refine blk_drew ?_ | refine blk_alloc ?_ _)); exact BK124.out) Try.underlying26 rfl (by kernel_rfl)) rfl ?_
  exact ⟨by first | rfl | (simp [errW_none, errW_some] <;> rfl) | (simp [*, errW_none, errW_some] <;> rfl), by repeat (first | (with_reducible first | exact HB.out | apply below_alloc | apply pw_below_drewN | apply below_drew1 | refine below_set ?_ GE124.out) | exact HB.out)⟩

/-! ### dragomanlaw04_alive: function 10 -/
def dragomanlaw04_alive.f (k : Nat)  : Option (Bool) := (dragomanlaw04_ten.f 8 8).bind fun bt125 => ((dragomanlaw04_ten.f 8 9).bind fun bt129 => ((pfx_Flat.f k (([(⟨true, (⟨(⟨bt125.1, bt125.2.1⟩ : S24), bt125.2.2.1, bt125.2.2.2⟩ : S26)⟩ : S41), (⟨false, (⟨(⟨bt129.1, bt129.2.1⟩ : S24), bt129.2.2.1, bt129.2.2.2⟩ : S26)⟩ : S41)] : List (S41)))).bind fun bt136 => ((pfx_Minus.f k 0 0 0 2 2147483648 1 1 2).bind fun t140 => ((dragomanlaw04_ten.f 16 24).bind fun bt143 => ((pfx_In.f bt143.1 bt143.2.1 bt143.2.2.1 bt143.2.2.2 167837696 16).bind fun t147 => (if t147 = true then ((dragomanlaw04_ten.f 16 24).bind fun bt148 => ((pfx_In.f bt148.1 bt148.2.1 bt148.2.2.1 bt148.2.2.2 167772160 8).bind fun t152 => (if t152 = true then (some false) else (if bt136.2 = 0 then ((dragomanlaw04_ten.f 9 9).bind fun bt153 => ((dragomanref04_Same.f k bt136.1 (([(⟨(⟨bt153.1, bt153.2.1⟩ : S24), bt153.2.2.1, bt153.2.2.2⟩ : S26)] : List (S26)))).bind fun t160 => (if t160 = true then ((dragomanref04_Same.f k t140 (([(⟨(⟨0, 0⟩ : S24), 0, 0⟩ : S26), (⟨(⟨0, 1⟩ : S24), 1, 2⟩ : S26)] : List (S26)))).bind fun t164 => (some t164)) else (some false)))) else (some false))))) else (some false)))))))
theorem dragomanlaw04_alive.mono : ∀ k, LeO (dragomanlaw04_alive.f k ) (dragomanlaw04_alive.f (k + 1) ) := by
  intro  k
  unfold dragomanlaw04_alive.f
  repeat' first
      | (with_reducible exact dragomanref04_Same.mono _ _ _)
      | (with_reducible exact pfx_Flat.mono _ _)
      | (with_reducible exact pfx_Minus.mono _ _ _ _ _ _ _ _ _)
      | (with_reducible exact LeO.refl _)
      | (with_reducible exact LeO.none _)
      | (with_reducible refine LeO.ite ?_ ?_)
      | (with_reducible refine LeO.bind ?_ (fun _ => ?_))
      | exact dragomanref04_Same.mono _ _ _
      | exact pfx_Flat.mono _ _
      | exact pfx_Minus.mono _ _ _ _ _ _ _ _ _
      | exact LeO.none _
      | refine LeO.ite ?_ ?_
      | refine LeO.bind ?_ (fun _ => ?_)
set_option maxHeartbeats 8000000 in
set_option maxRecDepth 100000 in
theorem dragomanlaw04_alive.calls (k : Nat)  (r : Bool) (w : World) (h : dragomanlaw04_alive.f k  = some r) :
    Calls Try.prog 10 #[] w fun e w' => e = .returned (.bool r) ∧ Below w.heap.size w w' := by
  have hu41 := Try.underlying41
  have hu26 := Try.underlying26
  have hu24 := Try.underlying24
  have HB := Aside0.mk (Below.refl w.heap.size w)
  have H : ((dragomanlaw04_ten.f 8 8).bind fun bt125 => ((dragomanlaw04_ten.f 8 9).bind fun bt129 => ((pfx_Flat.f k (([(⟨true, (⟨(⟨bt125.1, bt125.2.1⟩ : S24), bt125.2.2.1, bt125.2.2.2⟩ : S26)⟩ : S41), (⟨false, (⟨(⟨bt129.1, bt129.2.1⟩ : S24), bt129.2.2.1, bt129.2.2.2⟩ : S26)⟩ : S41)] : List (S41)))).bind fun bt136 => ((pfx_Minus.f k 0 0 0 2 2147483648 1 1 2).bind fun t140 => ((dragomanlaw04_ten.f 16 24).bind fun bt143 => ((pfx_In.f bt143.1 bt143.2.1 bt143.2.2.1 bt143.2.2.2 167837696 16).bind fun t147 => (if t147 = true then ((dragomanlaw04_ten.f 16 24).bind fun bt148 => ((pfx_In.f bt148.1 bt148.2.1 bt148.2.2.1 bt148.2.2.2 167772160 8).bind fun t152 => (if t152 = true then (some false) else (if bt136.2 = 0 then ((dragomanlaw04_ten.f 9 9).bind fun bt153 => ((dragomanref04_Same.f k bt136.1 (([(⟨(⟨bt153.1, bt153.2.1⟩ : S24), bt153.2.2.1, bt153.2.2.2⟩ : S26)] : List (S26)))).bind fun t160 => (if t160 = true then ((dragomanref04_Same.f k t140 (([(⟨(⟨0, 0⟩ : S24), 0, 0⟩ : S26), (⟨(⟨0, 1⟩ : S24), 1, 2⟩ : S26)] : List (S26)))).bind fun t164 => (some t164)) else (some false)))) else (some false))))) else (some false)))))))) = some r := h
  clear h
  replace H := Option.bind_eq_some_iff.mp H
  obtain ⟨⟨t125, t126, t127, t128⟩, A10, H⟩ := H
  replace H : ((dragomanlaw04_ten.f 8 9).bind fun bt129 => ((pfx_Flat.f k (([(⟨true, (⟨(⟨t125, t126⟩ : S24), t127, t128⟩ : S26)⟩ : S41), (⟨false, (⟨(⟨bt129.1, bt129.2.1⟩ : S24), bt129.2.2.1, bt129.2.2.2⟩ : S26)⟩ : S41)] : List (S41)))).bind fun bt136 => ((pfx_Minus.f k 0 0 0 2 2147483648 1 1 2).bind fun t140 => ((dragomanlaw04_ten.f 16 24).bind fun bt143 => ((pfx_In.f bt143.1 bt143.2.1 bt143.2.2.1 bt143.2.2.2 167837696 16).bind fun t147 => (if t147 = true then ((dragomanlaw04_ten.f 16 24).bind fun bt148 => ((pfx_In.f bt148.1 bt148.2.1 bt148.2.2.1 bt148.2.2.2 167772160 8).bind fun t152 => (if t152 = true then (some false) else (if bt136.2 = 0 then ((dragomanlaw04_ten.f 9 9).bind fun bt153 => ((dragomanref04_Same.f k bt136.1 (([(⟨(⟨bt153.1, bt153.2.1⟩ : S24), bt153.2.2.1, bt153.2.2.2⟩ : S26)] : List (S26)))).bind fun t160 => (if t160 = true then ((dragomanref04_Same.f k t140 (([(⟨(⟨0, 0⟩ : S24), 0, 0⟩ : S26), (⟨(⟨0, 1⟩ : S24), 1, 2⟩ : S26)] : List (S26)))).bind fun t164 => (some t164)) else (some false)))) else (some false))))) else (some false))))))) = some r := H
  have A1 := Aside0.mk A10
  clear A10
  replace H := Option.bind_eq_some_iff.mp H
  obtain ⟨⟨t129, t130, t131, t132⟩, A20, H⟩ := H
  replace H : ((pfx_Flat.f k (([(⟨true, (⟨(⟨t125, t126⟩ : S24), t127, t128⟩ : S26)⟩ : S41), (⟨false, (⟨(⟨t129, t130⟩ : S24), t131, t132⟩ : S26)⟩ : S41)] : List (S41)))).bind fun bt136 => ((pfx_Minus.f k 0 0 0 2 2147483648 1 1 2).bind fun t140 => ((dragomanlaw04_ten.f 16 24).bind fun bt143 => ((pfx_In.f bt143.1 bt143.2.1 bt143.2.2.1 bt143.2.2.2 167837696 16).bind fun t147 => (if t147 = true then ((dragomanlaw04_ten.f 16 24).bind fun bt148 => ((pfx_In.f bt148.1 bt148.2.1 bt148.2.2.1 bt148.2.2.2 167772160 8).bind fun t152 => (if t152 = true then (some false) else (if bt136.2 = 0 then ((dragomanlaw04_ten.f 9 9).bind fun bt153 => ((dragomanref04_Same.f k bt136.1 (([(⟨(⟨bt153.1, bt153.2.1⟩ : S24), bt153.2.2.1, bt153.2.2.2⟩ : S26)] : List (S26)))).bind fun t160 => (if t160 = true then ((dragomanref04_Same.f k t140 (([(⟨(⟨0, 0⟩ : S24), 0, 0⟩ : S26), (⟨(⟨0, 1⟩ : S24), 1, 2⟩ : S26)] : List (S26)))).bind fun t164 => (some t164)) else (some false)))) else (some false))))) else (some false)))))) = some r := H
  have A2 := Aside0.mk A20
  clear A20
  obtain ⟨y133, hy133⟩ : ∃ y_ : List (S41), y_ = (([(⟨true, (⟨(⟨t125, t126⟩ : S24), t127, t128⟩ : S26)⟩ : S41), (⟨false, (⟨(⟨t129, t130⟩ : S24), t131, t132⟩ : S26)⟩ : S41)] : List (S41))) := ⟨_, rfl⟩
  replace H : ((pfx_Flat.f k y133).bind fun bt136 => ((pfx_Minus.f k 0 0 0 2 2147483648 1 1 2).bind fun t140 => ((dragomanlaw04_ten.f 16 24).bind fun bt143 => ((pfx_In.f bt143.1 bt143.2.1 bt143.2.2.1 bt143.2.2.2 167837696 16).bind fun t147 => (if t147 = true then ((dragomanlaw04_ten.f 16 24).bind fun bt148 => ((pfx_In.f bt148.1 bt148.2.1 bt148.2.2.1 bt148.2.2.2 167772160 8).bind fun t152 => (if t152 = true then (some false) else (if bt136.2 = 0 then ((dragomanlaw04_ten.f 9 9).bind fun bt153 => ((dragomanref04_Same.f k bt136.1 (([(⟨(⟨bt153.1, bt153.2.1⟩ : S24), bt153.2.2.1, bt153.2.2.2⟩ : S26)] : List (S26)))).bind fun t160 => (if t160 = true then ((dragomanref04_Same.f k t140 (([(⟨(⟨0, 0⟩ : S24), 0, 0⟩ : S26), (⟨(⟨0, 1⟩ : S24), 1, 2⟩ : S26)] : List (S26)))).bind fun t164 => (some t164)) else (some false)))) else (some false))))) else (some false)))))) = some r := by first | (rw [hy133]; with_reducible exact H) | (have H2_ := (Option.bind_some _ _).symm.trans H; rw [hy133]; with_reducible exact H2_) | (have H2_ := (Option.bind_some _ _).symm.trans H; with_reducible exact H2_) | with_reducible exact H | (rw [hy133]; exact H) | exact H
  have Ny133 := Aside0.mk hy133
  clear hy133
  replace H := Option.bind_eq_some_iff.mp H
  obtain ⟨⟨t136, t137⟩, A30, H⟩ := H
  replace H : ((pfx_Minus.f k 0 0 0 2 2147483648 1 1 2).bind fun t140 => ((dragomanlaw04_ten.f 16 24).bind fun bt143 => ((pfx_In.f bt143.1 bt143.2.1 bt143.2.2.1 bt143.2.2.2 167837696 16).bind fun t147 => (if t147 = true then ((dragomanlaw04_ten.f 16 24).bind fun bt148 => ((pfx_In.f bt148.1 bt148.2.1 bt148.2.2.1 bt148.2.2.2 167772160 8).bind fun t152 => (if t152 = true then (some false) else (if t137 = 0 then ((dragomanlaw04_ten.f 9 9).bind fun bt153 => ((dragomanref04_Same.f k t136 (([(⟨(⟨bt153.1, bt153.2.1⟩ : S24), bt153.2.2.1, bt153.2.2.2⟩ : S26)] : List (S26)))).bind fun t160 => (if t160 = true then ((dragomanref04_Same.f k t140 (([(⟨(⟨0, 0⟩ : S24), 0, 0⟩ : S26), (⟨(⟨0, 1⟩ : S24), 1, 2⟩ : S26)] : List (S26)))).bind fun t164 => (some t164)) else (some false)))) else (some false))))) else (some false))))) = some r := H
  have A3 := Aside0.mk A30
  clear A30
  replace H := Option.bind_eq_some_iff.mp H
  obtain ⟨t140, A40, H⟩ := H
  replace H : ((dragomanlaw04_ten.f 16 24).bind fun bt143 => ((pfx_In.f bt143.1 bt143.2.1 bt143.2.2.1 bt143.2.2.2 167837696 16).bind fun t147 => (if t147 = true then ((dragomanlaw04_ten.f 16 24).bind fun bt148 => ((pfx_In.f bt148.1 bt148.2.1 bt148.2.2.1 bt148.2.2.2 167772160 8).bind fun t152 => (if t152 = true then (some false) else (if t137 = 0 then ((dragomanlaw04_ten.f 9 9).bind fun bt153 => ((dragomanref04_Same.f k t136 (([(⟨(⟨bt153.1, bt153.2.1⟩ : S24), bt153.2.2.1, bt153.2.2.2⟩ : S26)] : List (S26)))).bind fun t160 => (if t160 = true then ((dragomanref04_Same.f k t140 (([(⟨(⟨0, 0⟩ : S24), 0, 0⟩ : S26), (⟨(⟨0, 1⟩ : S24), 1, 2⟩ : S26)] : List (S26)))).bind fun t164 => (some t164)) else (some false)))) else (some false))))) else (some false)))) = some r := H
  have A4 := Aside0.mk A40
  clear A40
  replace H := Option.bind_eq_some_iff.mp H
  obtain ⟨⟨t143, t144, t145, t146⟩, A50, H⟩ := H
  replace H : ((pfx_In.f t143 t144 t145 t146 167837696 16).bind fun t147 => (if t147 = true then ((dragomanlaw04_ten.f 16 24).bind fun bt148 => ((pfx_In.f bt148.1 bt148.2.1 bt148.2.2.1 bt148.2.2.2 167772160 8).bind fun t152 => (if t152 = true then (some false) else (if t137 = 0 then ((dragomanlaw04_ten.f 9 9).bind fun bt153 => ((dragomanref04_Same.f k t136 (([(⟨(⟨bt153.1, bt153.2.1⟩ : S24), bt153.2.2.1, bt153.2.2.2⟩ : S26)] : List (S26)))).bind fun t160 => (if t160 = true then ((dragomanref04_Same.f k t140 (([(⟨(⟨0, 0⟩ : S24), 0, 0⟩ : S26), (⟨(⟨0, 1⟩ : S24), 1, 2⟩ : S26)] : List (S26)))).bind fun t164 => (some t164)) else (some false)))) else (some false))))) else (some false))) = some r := H
  have A5 := Aside0.mk A50
  clear A50
  replace H := Option.bind_eq_some_iff.mp H
  obtain ⟨t147, A60, H⟩ := H
  replace H : (if t147 = true then ((dragomanlaw04_ten.f 16 24).bind fun bt148 => ((pfx_In.f bt148.1 bt148.2.1 bt148.2.2.1 bt148.2.2.2 167772160 8).bind fun t152 => (if t152 = true then (some false) else (if t137 = 0 then ((dragomanlaw04_ten.f 9 9).bind fun bt153 => ((dragomanref04_Same.f k t136 (([(⟨(⟨bt153.1, bt153.2.1⟩ : S24), bt153.2.2.1, bt153.2.2.2⟩ : S26)] : List (S26)))).bind fun t160 => (if t160 = true then ((dragomanref04_Same.f k t140 (([(⟨(⟨0, 0⟩ : S24), 0, 0⟩ : S26), (⟨(⟨0, 1⟩ : S24), 1, 2⟩ : S26)] : List (S26)))).bind fun t164 => (some t164)) else (some false)))) else (some false))))) else (some false)) = some r := H
  have A6 := Aside0.mk A60
  clear A60
  by_cases c7 : t147 = true
  · subst c7
    have H1 : ((dragomanlaw04_ten.f 16 24).bind fun bt148 => ((pfx_In.f bt148.1 bt148.2.1 bt148.2.2.1 bt148.2.2.2 167772160 8).bind fun t152 => (if t152 = true then (some false) else (if t137 = 0 then ((dragomanlaw04_ten.f 9 9).bind fun bt153 => ((dragomanref04_Same.f k t136 (([(⟨(⟨bt153.1, bt153.2.1⟩ : S24), bt153.2.2.1, bt153.2.2.2⟩ : S26)] : List (S26)))).bind fun t160 => (if t160 = true then ((dragomanref04_Same.f k t140 (([(⟨(⟨0, 0⟩ : S24), 0, 0⟩ : S26), (⟨(⟨0, 1⟩ : S24), 1, 2⟩ : S26)] : List (S26)))).bind fun t164 => (some t164)) else (some false)))) else (some false))))) = some r := by rw [if_pos rfl] at H; exact H
    clear H
    have H := H1
    clear H1
    replace H := Option.bind_eq_some_iff.mp H
    obtain ⟨⟨t148, t149, t150, t151⟩, A80, H⟩ := H
    replace H : ((pfx_In.f t148 t149 t150 t151 167772160 8).bind fun t152 => (if t152 = true then (some false) else (if t137 = 0 then ((dragomanlaw04_ten.f 9 9).bind fun bt153 => ((dragomanref04_Same.f k t136 (([(⟨(⟨bt153.1, bt153.2.1⟩ : S24), bt153.2.2.1, bt153.2.2.2⟩ : S26)] : List (S26)))).bind fun t160 => (if t160 = true then ((dragomanref04_Same.f k t140 (([(⟨(⟨0, 0⟩ : S24), 0, 0⟩ : S26), (⟨(⟨0, 1⟩ : S24), 1, 2⟩ : S26)] : List (S26)))).bind fun t164 => (some t164)) else (some false)))) else (some false)))) = some r := H
    have A8 := Aside0.mk A80
    clear A80
    replace H := Option.bind_eq_some_iff.mp H
    obtain ⟨t152, A90, H⟩ := H
    replace H : (if t152 = true then (some false) else (if t137 = 0 then ((dragomanlaw04_ten.f 9 9).bind fun bt153 => ((dragomanref04_Same.f k t136 (([(⟨(⟨bt153.1, bt153.2.1⟩ : S24), bt153.2.2.1, bt153.2.2.2⟩ : S26)] : List (S26)))).bind fun t160 => (if t160 = true then ((dragomanref04_Same.f k t140 (([(⟨(⟨0, 0⟩ : S24), 0, 0⟩ : S26), (⟨(⟨0, 1⟩ : S24), 1, 2⟩ : S26)] : List (S26)))).bind fun t164 => (some t164)) else (some false)))) else (some false))) = some r := H
    have A9 := Aside0.mk A90
    clear A90
    by_cases c10 : t152 = true
    · subst c10
      have H1 : (some false) = some r := by rw [if_pos rfl] at H; exact H
      clear H
      have H := H1
      clear H1
      obtain rfl := Option.some.inj H
      go_enter Try.func10, Try.ntmps10
      go_wp2_with (first | ((with_reducible refine gate_callee (f := 27) rfl ?_); refine goesL_ (some 5) rfl rfl Try.func27 (by kernel_rfl) rfl #[.int .i64 8, .int .i64 8] rfl (by (try simp only [List.map_toArray, List.map_cons, List.map_nil]); first | done | rfl | (simp only [List.length_drop, List.length_take]; rfl)) ?_; (with_reducible refine (dragomanlaw04_ten.calls 8 8 t125 t126 t127 t128 _ A1.out).mono ?_); rintro e w11 ⟨rfl, hb⟩; refine ⟨_, rfl, ?_⟩; have n0_ := Aside0.mk (below_step (by repeat (first | (with_reducible first | exact HB.out | apply below_alloc | apply pw_below_drewN | apply below_drew1) | exact HB.out)) hb); clear HB; have HB := n0_; clear n0_; (try clear hb); (try clear hb2); (try clear hk); (try clear hi)) | ((with_reducible refine gate_callee (f := 27) rfl ?_); refine goesL_ (some 7) rfl rfl Try.func27 (by kernel_rfl) rfl #[.int .i64 8, .int .i64 9] rfl (by (try simp only [List.map_toArray, List.map_cons, List.map_nil]); first | done | rfl | (simp only [List.length_drop, List.length_take]; rfl)) ?_; (with_reducible refine (dragomanlaw04_ten.calls 8 9 t129 t130 t131 t132 _ A2.out).mono ?_); rintro e w12 ⟨rfl, hb⟩; refine ⟨_, rfl, ?_⟩; have n0_ := Aside0.mk (below_step (by repeat (first | (with_reducible first | exact HB.out | apply below_alloc | apply pw_below_drewN | apply below_drew1) | exact HB.out)) hb); clear HB; have HB := n0_; clear n0_; (try clear hb); (try clear hb2); (try clear hk); (try clear hi)) | ((with_reducible refine gate_dst (N := 9) rfl ?_); (try (refine gate_guard (by rfl) ?_; dsimp only)); refine Kd.R_lit k41 _ 41 ?hg (N := 9) ?hd (xs := ([(⟨true, (⟨(⟨t125, t126⟩ : S24), t127, t128⟩ : S26)⟩ : S41), (⟨false, (⟨(⟨t129, t130⟩ : S24), t131, t132⟩ : S26)⟩ : S41)] : List (S41))) (inner := [.bool true, .int .u32 t125, .int .i64 t126, .int .i64 t127, .int .i64 t128, .bool false, .int .u32 t129, .int .i64 t130, .int .i64 t131, .int .i64 t132]) (ok := fun _ => True) (okp := fun _ => True) ?hr ?hp (fun _ hk => hk) trivial (Below.refl _ _) (Nat.le_refl _) (by simp) ?_; (case hd => rfl); (case hg => rfl); (case hr => first | (go_simp; done) | (go_simp; rfl)); (case hp => exact (Reps.c5 (show Kd.M k41 _ _ _ (⟨true, (⟨(⟨t125, t126⟩ : S24), t127, t128⟩ : S26)⟩ : S41) [.bool true, .int .u32 t125, .int .i64 t126, .int .i64 t127, .int .i64 t128] from (k41_mkM _ _ _ (⟨true, (⟨(⟨t125, t126⟩ : S24), t127, t128⟩ : S26)⟩ : S41) )) (Reps.c5 (show Kd.M k41 _ _ _ (⟨false, (⟨(⟨t129, t130⟩ : S24), t131, t132⟩ : S26)⟩ : S41) [.bool false, .int .u32 t129, .int .i64 t130, .int .i64 t131, .int .i64 t132] from (k41_mkM _ _ _ (⟨false, (⟨(⟨t129, t130⟩ : S24), t131, t132⟩ : S26)⟩ : S41) )) (Reps.none _ _)))); intro v134 w13 ho14 hb hg_ hnew_; clear hg_ hnew_; (first | rw [← Ny133.out] at ho14 | (simp only [Int.reduceToNat] at ho14; rw [← Ny133.out] at ho14)); have n0_ := Aside0.mk (Kd.R_lower ho14 (below_size (by repeat (first | (with_reducible first | exact HB.out | apply below_alloc | apply pw_below_drewN | apply below_drew1) | exact HB.out)))); have n1_ := Aside0.mk (below_step (by repeat (first | (with_reducible first | exact HB.out | apply below_alloc | apply pw_below_drewN | apply below_drew1) | exact HB.out)) hb); clear HB; have HO135 := n0_; have HB := n1_; clear n0_ n1_; clear hb ho14; obtain ⟨Ao15, co15, eo15⟩ := Kd.R_slice HO135.out; subst eo15) | ((with_reducible refine gate_callee (f := 16) rfl ?_); refine goesL_ (some 10) rfl rfl Try.func16 (by kernel_rfl) rfl #[.slice Ao15 y133.length co15] rfl (by (try simp only [List.map_toArray, List.map_cons, List.map_nil]); first | done | rfl | (simp only [List.length_drop, List.length_take]; rfl)) ?_; (with_reducible refine (pfx_Flat.calls k _ _ y133 t136 t137 _ ?side1 ?side2 A3.out).mono ?_); (case side1 => repeat (first | exact (Kd.R_reads' HO135.out).2.2 | (with_reducible refine Kd.C_alloc ?_ _) | (with_reducible refine Kd.C_drewN ?_ _) | (with_reducible refine Kd.C_drew ?_))); (case side2 => exact (Kd.R_reads' HO135.out).2.1); rintro e w16 ⟨v138, rfl, ho0, hb⟩; refine ⟨_, rfl, ?_⟩; have n0_ := Aside0.mk (Kd.R_below (by (with_reducible repeat (first | apply Kd.R_alloc | apply Kd.R_drewN | apply Kd.R_drew)); exact HO135.out) hb); have n1_ := Aside0.mk (Kd.R_lower ho0 (below_size (by repeat (first | (with_reducible first | exact HB.out | apply below_alloc | apply pw_below_drewN | apply below_drew1) | exact HB.out)))); have n2_ := Aside0.mk (below_step (by repeat (first | (with_reducible first | exact HB.out | apply below_alloc | apply pw_below_drewN | apply below_drew1) | exact HB.out)) hb); clear HO135; clear HB; have HO135 := n0_; have HO139 := n1_; have HB := n2_; clear n0_ n1_ n2_; (try clear hb); (try clear hb2); (try clear hk); (try clear hi); (try clear ho0)) | ((with_reducible refine gate_callee (f := 14) rfl ?_); refine goesL_ (some 16) rfl rfl Try.func14 (by kernel_rfl) rfl #[.agg #[.int .u32 0, .int .i64 0, .int .i64 0, .int .i64 2], .agg #[.int .u32 2147483648, .int .i64 1, .int .i64 1, .int .i64 2]] rfl (by (try simp only [List.map_toArray, List.map_cons, List.map_nil]); first | done | rfl | (simp only [List.length_drop, List.length_take]; rfl)) ?_; (with_reducible refine (pfx_Minus.calls k 0 0 0 2 2147483648 1 1 2 t140 _ A4.out).mono ?_); rintro e w17 ⟨v141, rfl, ho0, hb⟩; refine ⟨_, rfl, ?_⟩; have n0_ := Aside0.mk (Kd.R_below (by (with_reducible repeat (first | apply Kd.R_alloc | apply Kd.R_drewN | apply Kd.R_drew)); exact HO135.out) hb); have n1_ := Aside0.mk (Kd.R_elder' (by (with_reducible repeat (first | apply Kd.R_alloc | apply Kd.R_drewN | apply Kd.R_drew)); exact HO139.out) (Kd.R_base ho0) hb); have n2_ := Aside0.mk (Kd.R_lower (Kd.R_new' ho0 (Kd.R_lt (by (with_reducible repeat (first | apply Kd.R_alloc | apply Kd.R_drewN | apply Kd.R_drew)); exact HO139.out))) (below_size (by repeat (first | (with_reducible first | exact HB.out | apply below_alloc | apply pw_below_drewN | apply below_drew1) | exact HB.out)))); have n3_ := Aside0.mk (below_step (by repeat (first | (with_reducible first | exact HB.out | apply below_alloc | apply pw_below_drewN | apply below_drew1) | exact HB.out)) hb); clear HO135; clear HO139; clear HB; have HO135 := n0_; have HO139 := n1_; have HO142 := n2_; have HB := n3_; clear n0_ n1_ n2_ n3_; (try clear hb); (try clear hb2); (try clear hk); (try clear hi); (try clear ho0)) | ((with_reducible refine gate_callee (f := 27) rfl ?_); refine goesL_ (some 17) rfl rfl Try.func27 (by kernel_rfl) rfl #[.int .i64 16, .int .i64 24] rfl (by (try simp only [List.map_toArray, List.map_cons, List.map_nil]); first | done | rfl | (simp only [List.length_drop, List.length_take]; rfl)) ?_; (with_reducible refine (dragomanlaw04_ten.calls 16 24 t143 t144 t145 t146 _ A5.out).mono ?_); rintro e w18 ⟨rfl, hb⟩; refine ⟨_, rfl, ?_⟩; have n0_ := Aside0.mk (Kd.R_below (by (with_reducible repeat (first | apply Kd.R_alloc | apply Kd.R_drewN | apply Kd.R_drew)); exact HO135.out) hb); have n1_ := Aside0.mk (Kd.R_below (by (with_reducible repeat (first | apply Kd.R_alloc | apply Kd.R_drewN | apply Kd.R_drew)); exact HO139.out) hb); have n2_ := Aside0.mk (Kd.R_below (by (with_reducible repeat (first | apply Kd.R_alloc | apply Kd.R_drewN | apply Kd.R_drew)); exact HO142.out) hb); have n3_ := Aside0.mk (below_step (by repeat (first | (with_reducible first | exact HB.out | apply below_alloc | apply pw_below_drewN | apply below_drew1) | exact HB.out)) hb); clear HO135; clear HO139; clear HO142; clear HB; have HO135 := n0_; have HO139 := n1_; have HO142 := n2_; have HB := n3_; clear n0_ n1_ n2_ n3_; (try clear hb); (try clear hb2); (try clear hk); (try clear hi)) | ((with_reducible refine gate_callee (f := 18) rfl ?_); refine goesL_ (some 19) rfl rfl Try.func18 (by kernel_rfl) rfl #[.agg #[.int .u32 t143, .int .i64 t144, .int .i64 t145, .int .i64 t146], .agg #[.int .u32 167837696, .int .i64 16]] rfl (by (try simp only [List.map_toArray, List.map_cons, List.map_nil]); first | done | rfl | (simp only [List.length_drop, List.length_take]; rfl)) ?_; (with_reducible refine (pfx_In.calls t143 t144 t145 t146 167837696 16 true _ A6.out).mono ?_); rintro e w19 ⟨rfl, hb⟩; refine ⟨_, rfl, ?_⟩; have n0_ := Aside0.mk (Kd.R_below (by (with_reducible repeat (first | apply Kd.R_alloc | apply Kd.R_drewN | apply Kd.R_drew)); exact HO135.out) hb); have n1_ := Aside0.mk (Kd.R_below (by (with_reducible repeat (first | apply Kd.R_alloc | apply Kd.R_drewN | apply Kd.R_drew)); exact HO139.out) hb); have n2_ := Aside0.mk (Kd.R_below (by (with_reducible repeat (first | apply Kd.R_alloc | apply Kd.R_drewN | apply Kd.R_drew)); exact HO142.out) hb); have n3_ := Aside0.mk (below_step (by repeat (first | (with_reducible first | exact HB.out | apply below_alloc | apply pw_below_drewN | apply below_drew1) | exact HB.out)) hb); clear HO135; clear HO139; clear HO142; clear HB; have HO135 := n0_; have HO139 := n1_; have HO142 := n2_; have HB := n3_; clear n0_ n1_ n2_ n3_; (try clear hb); (try clear hb2); (try clear hk); (try clear hi)) | (go_at_call 27; (with_reducible refine (dragomanlaw04_ten.calls 16 24 t148 t149 t150 t151 _ A8.out).mono ?_); rintro e w20 ⟨rfl, hb⟩; have n0_ := Aside0.mk (Kd.R_below (by (with_reducible repeat (first | apply Kd.R_alloc | apply Kd.R_drewN | apply Kd.R_drew)); exact HO135.out) hb); have n1_ := Aside0.mk (Kd.R_below (by (with_reducible repeat (first | apply Kd.R_alloc | apply Kd.R_drewN | apply Kd.R_drew)); exact HO139.out) hb); have n2_ := Aside0.mk (Kd.R_below (by (with_reducible repeat (first | apply Kd.R_alloc | apply Kd.R_drewN | apply Kd.R_drew)); exact HO142.out) hb); have n3_ := Aside0.mk (below_step (by repeat (first | (with_reducible first | exact HB.out | apply below_alloc | apply pw_below_drewN | apply below_drew1) | exact HB.out)) hb); clear HO135; clear HO139; clear HO142; clear HB; have HO135 := n0_; have HO139 := n1_; have HO142 := n2_; have HB := n3_; clear n0_ n1_ n2_ n3_; (try clear hb); (try clear hb2); (try clear hk); (try clear hi)) | (go_at_call 18; (with_reducible refine (pfx_In.calls t148 t149 t150 t151 167772160 8 true _ A9.out).mono ?_); rintro e w21 ⟨rfl, hb⟩; have n0_ := Aside0.mk (Kd.R_below (by (with_reducible repeat (first | apply Kd.R_alloc | apply Kd.R_drewN | apply Kd.R_drew)); exact HO135.out) hb); have n1_ := Aside0.mk (Kd.R_below (by (with_reducible repeat (first | apply Kd.R_alloc | apply Kd.R_drewN | apply Kd.R_drew)); exact HO139.out) hb); have n2_ := Aside0.mk (Kd.R_below (by (with_reducible repeat (first | apply Kd.R_alloc | apply Kd.R_drewN | apply Kd.R_drew)); exact HO142.out) hb); have n3_ := Aside0.mk (below_step (by repeat (first | (with_reducible first | exact HB.out | apply below_alloc | apply pw_below_drewN | apply below_drew1) | exact HB.out)) hb); clear HO135; clear HO139; clear HO142; clear HB; have HO135 := n0_; have HO139 := n1_; have HO142 := n2_; have HB := n3_; clear n0_ n1_ n2_ n3_; (try clear hb); (try clear hb2); (try clear hk); (try clear hi)))
      go_ret
      exact ⟨by first | rfl | (simp [errW_none, errW_some] <;> rfl) | (simp [*, errW_none, errW_some] <;> rfl), by repeat (first | (with_reducible first | exact HB.out | apply below_alloc | apply pw_below_drewN | apply below_drew1) | exact HB.out)⟩
    · replace c10 := Bool.eq_false_iff.mpr c10
      subst c10
      have H1 : (if t137 = 0 then ((dragomanlaw04_ten.f 9 9).bind fun bt153 => ((dragomanref04_Same.f k t136 (([(⟨(⟨bt153.1, bt153.2.1⟩ : S24), bt153.2.2.1, bt153.2.2.2⟩ : S26)] : List (S26)))).bind fun t160 => (if t160 = true then ((dragomanref04_Same.f k t140 (([(⟨(⟨0, 0⟩ : S24), 0, 0⟩ : S26), (⟨(⟨0, 1⟩ : S24), 1, 2⟩ : S26)] : List (S26)))).bind fun t164 => (some t164)) else (some false)))) else (some false)) = some r := by rw [if_neg (show ¬ (false = true) by decide)] at H; exact H
      clear H
      have H := H1
      clear H1
      by_cases c22 : t137 = 0
      · rw [if_pos c22] at H
        have c22b0 : (t137 == 0) = true := beq_iff_eq.mpr c22
        have c22b1 : (t137 != 0) = false := bne_eq_false_iff_eq.mpr c22
        clear c22
        replace H := Option.bind_eq_some_iff.mp H
        obtain ⟨⟨t153, t154, t155, t156⟩, A230, H⟩ := H
        replace H : ((dragomanref04_Same.f k t136 (([(⟨(⟨t153, t154⟩ : S24), t155, t156⟩ : S26)] : List (S26)))).bind fun t160 => (if t160 = true then ((dragomanref04_Same.f k t140 (([(⟨(⟨0, 0⟩ : S24), 0, 0⟩ : S26), (⟨(⟨0, 1⟩ : S24), 1, 2⟩ : S26)] : List (S26)))).bind fun t164 => (some t164)) else (some false))) = some r := H
        have A23 := Aside0.mk A230
        clear A230
        obtain ⟨y157, hy157⟩ : ∃ y_ : List (S26), y_ = (([(⟨(⟨t153, t154⟩ : S24), t155, t156⟩ : S26)] : List (S26))) := ⟨_, rfl⟩
        replace H : ((dragomanref04_Same.f k t136 y157).bind fun t160 => (if t160 = true then ((dragomanref04_Same.f k t140 (([(⟨(⟨0, 0⟩ : S24), 0, 0⟩ : S26), (⟨(⟨0, 1⟩ : S24), 1, 2⟩ : S26)] : List (S26)))).bind fun t164 => (some t164)) else (some false))) = some r := by first | (rw [hy157]; with_reducible exact H) | (have H2_ := (Option.bind_some _ _).symm.trans H; rw [hy157]; with_reducible exact H2_) | (have H2_ := (Option.bind_some _ _).symm.trans H; with_reducible exact H2_) | with_reducible exact H | (rw [hy157]; exact H) | exact H
        have Ny157 := Aside0.mk hy157
        clear hy157
        replace H := Option.bind_eq_some_iff.mp H
        obtain ⟨t160, A240, H⟩ := H
        replace H : (if t160 = true then ((dragomanref04_Same.f k t140 (([(⟨(⟨0, 0⟩ : S24), 0, 0⟩ : S26), (⟨(⟨0, 1⟩ : S24), 1, 2⟩ : S26)] : List (S26)))).bind fun t164 => (some t164)) else (some false)) = some r := H
        have A24 := Aside0.mk A240
        clear A240
        by_cases c25 : t160 = true
        · subst c25
          have H1 : ((dragomanref04_Same.f k t140 (([(⟨(⟨0, 0⟩ : S24), 0, 0⟩ : S26), (⟨(⟨0, 1⟩ : S24), 1, 2⟩ : S26)] : List (S26)))).bind fun t164 => (some t164)) = some r := by rw [if_pos rfl] at H; exact H
          clear H
          have H := H1
          clear H1
          obtain ⟨y161, hy161⟩ : ∃ y_ : List (S26), y_ = (([(⟨(⟨0, 0⟩ : S24), 0, 0⟩ : S26), (⟨(⟨0, 1⟩ : S24), 1, 2⟩ : S26)] : List (S26))) := ⟨_, rfl⟩
          replace H : ((dragomanref04_Same.f k t140 y161).bind fun t164 => (some t164)) = some r := by first | (rw [hy161]; with_reducible exact H) | (have H2_ := (Option.bind_some _ _).symm.trans H; rw [hy161]; with_reducible exact H2_) | (have H2_ := (Option.bind_some _ _).symm.trans H; with_reducible exact H2_) | with_reducible exact H | (rw [hy161]; exact H) | exact H
          have Ny161 := Aside0.mk hy161
          clear hy161
          replace H := Option.bind_eq_some_iff.mp H
          obtain ⟨t164, A260, H⟩ := H
          replace H : (some t164) = some r := H
          have A26 := Aside0.mk A260
          clear A260
          obtain rfl := Option.some.inj H
          go_enter Try.func10, Try.ntmps10
          go_wp2_with (first | ((with_reducible refine gate_callee (f := 27) rfl ?_); refine goesL_ (some 5) rfl rfl Try.func27 (by kernel_rfl) rfl #[.int .i64 8, .int .i64 8] rfl (by (try simp only [List.map_toArray, List.map_cons, List.map_nil]); first | done | rfl | (simp only [List.length_drop, List.length_take]; rfl)) ?_; (with_reducible refine (dragomanlaw04_ten.calls 8 8 t125 t126 t127 t128 _ A1.out).mono ?_); rintro e w27 ⟨rfl, hb⟩; refine ⟨_, rfl, ?_⟩; have n0_ := Aside0.mk (below_step (by repeat (first | (with_reducible first | exact HB.out | apply below_alloc | apply pw_below_drewN | apply below_drew1) | exact HB.out)) hb); clear HB; have HB := n0_; clear n0_; (try clear hb); (try clear hb2); (try clear hk); (try clear hi)) | ((with_reducible refine gate_callee (f := 27) rfl ?_); refine goesL_ (some 7) rfl rfl Try.func27 (by kernel_rfl) rfl #[.int .i64 8, .int .i64 9] rfl (by (try simp only [List.map_toArray, List.map_cons, List.map_nil]); first | done | rfl | (simp only [List.length_drop, List.length_take]; rfl)) ?_; (with_reducible refine (dragomanlaw04_ten.calls 8 9 t129 t130 t131 t132 _ A2.out).mono ?_); rintro e w28 ⟨rfl, hb⟩; refine ⟨_, rfl, ?_⟩; have n0_ := Aside0.mk (below_step (by repeat (first | (with_reducible first | exact HB.out | apply below_alloc | apply pw_below_drewN | apply below_drew1) | exact HB.out)) hb); clear HB; have HB := n0_; clear n0_; (try clear hb); (try clear hb2); (try clear hk); (try clear hi)) | ((with_reducible refine gate_dst (N := 9) rfl ?_); (try (refine gate_guard (by rfl) ?_; dsimp only)); refine Kd.R_lit k41 _ 41 ?hg (N := 9) ?hd (xs := ([(⟨true, (⟨(⟨t125, t126⟩ : S24), t127, t128⟩ : S26)⟩ : S41), (⟨false, (⟨(⟨t129, t130⟩ : S24), t131, t132⟩ : S26)⟩ : S41)] : List (S41))) (inner := [.bool true, .int .u32 t125, .int .i64 t126, .int .i64 t127, .int .i64 t128, .bool false, .int .u32 t129, .int .i64 t130, .int .i64 t131, .int .i64 t132]) (ok := fun _ => True) (okp := fun _ => True) ?hr ?hp (fun _ hk => hk) trivial (Below.refl _ _) (Nat.le_refl _) (by simp) ?_; (case hd => rfl); (case hg => rfl); (case hr => first | (go_simp; done) | (go_simp; rfl)); (case hp => exact (Reps.c5 (show Kd.M k41 _ _ _ (⟨true, (⟨(⟨t125, t126⟩ : S24), t127, t128⟩ : S26)⟩ : S41) [.bool true, .int .u32 t125, .int .i64 t126, .int .i64 t127, .int .i64 t128] from (k41_mkM _ _ _ (⟨true, (⟨(⟨t125, t126⟩ : S24), t127, t128⟩ : S26)⟩ : S41) )) (Reps.c5 (show Kd.M k41 _ _ _ (⟨false, (⟨(⟨t129, t130⟩ : S24), t131, t132⟩ : S26)⟩ : S41) [.bool false, .int .u32 t129, .int .i64 t130, .int .i64 t131, .int .i64 t132] from (k41_mkM _ _ _ (⟨false, (⟨(⟨t129, t130⟩ : S24), t131, t132⟩ : S26)⟩ : S41) )) (Reps.none _ _)))); intro v134 w29 ho30 hb hg_ hnew_; clear hg_ hnew_; (first | rw [← Ny133.out] at ho30 | (simp only [Int.reduceToNat] at ho30; rw [← Ny133.out] at ho30)); have n0_ := Aside0.mk (Kd.R_lower ho30 (below_size (by repeat (first | (with_reducible first | exact HB.out | apply below_alloc | apply pw_below_drewN | apply below_drew1) | exact HB.out)))); have n1_ := Aside0.mk (below_step (by repeat (first | (with_reducible first | exact HB.out | apply below_alloc | apply pw_below_drewN | apply below_drew1) | exact HB.out)) hb); clear HB; have HO135 := n0_; have HB := n1_; clear n0_ n1_; clear hb ho30; obtain ⟨Ao31, co31, eo31⟩ := Kd.R_slice HO135.out; subst eo31) | ((with_reducible refine gate_callee (f := 16) rfl ?_); refine goesL_ (some 10) rfl rfl Try.func16 (by kernel_rfl) rfl #[.slice Ao31 y133.length co31] rfl (by (try simp only [List.map_toArray, List.map_cons, List.map_nil]); first | done | rfl | (simp only [List.length_drop, List.length_take]; rfl)) ?_; (with_reducible refine (pfx_Flat.calls k _ _ y133 t136 t137 _ ?side1 ?side2 A3.out).mono ?_); (case side1 => repeat (first | exact (Kd.R_reads' HO135.out).2.2 | (with_reducible refine Kd.C_alloc ?_ _) | (with_reducible refine Kd.C_drewN ?_ _) | (with_reducible refine Kd.C_drew ?_))); (case side2 => exact (Kd.R_reads' HO135.out).2.1); rintro e w32 ⟨v138, rfl, ho0, hb⟩; refine ⟨_, rfl, ?_⟩; have n0_ := Aside0.mk (Kd.R_below (by (with_reducible repeat (first | apply Kd.R_alloc | apply Kd.R_drewN | apply Kd.R_drew)); exact HO135.out) hb); have n1_ := Aside0.mk (Kd.R_lower ho0 (below_size (by repeat (first | (with_reducible first | exact HB.out | apply below_alloc | apply pw_below_drewN | apply below_drew1) | exact HB.out)))); have n2_ := Aside0.mk (below_step (by repeat (first | (with_reducible first | exact HB.out | apply below_alloc | apply pw_below_drewN | apply below_drew1) | exact HB.out)) hb); clear HO135; clear HB; have HO135 := n0_; have HO139 := n1_; have HB := n2_; clear n0_ n1_ n2_; (try clear hb); (try clear hb2); (try clear hk); (try clear hi); (try clear ho0)) | ((with_reducible refine gate_callee (f := 14) rfl ?_); refine goesL_ (some 16) rfl rfl Try.func14 (by kernel_rfl) rfl #[.agg #[.int .u32 0, .int .i64 0, .int .i64 0, .int .i64 2], .agg #[.int .u32 2147483648, .int .i64 1, .int .i64 1, .int .i64 2]] rfl (by (try simp only [List.map_toArray, List.map_cons, List.map_nil]); first | done | rfl | (simp only [List.length_drop, List.length_take]; rfl)) ?_; (with_reducible refine (pfx_Minus.calls k 0 0 0 2 2147483648 1 1 2 t140 _ A4.out).mono ?_); rintro e w33 ⟨v141, rfl, ho0, hb⟩; refine ⟨_, rfl, ?_⟩; have n0_ := Aside0.mk (Kd.R_below (by (with_reducible repeat (first | apply Kd.R_alloc | apply Kd.R_drewN | apply Kd.R_drew)); exact HO135.out) hb); have n1_ := Aside0.mk (Kd.R_elder' (by (with_reducible repeat (first | apply Kd.R_alloc | apply Kd.R_drewN | apply Kd.R_drew)); exact HO139.out) (Kd.R_base ho0) hb); have n2_ := Aside0.mk (Kd.R_lower (Kd.R_new' ho0 (Kd.R_lt (by (with_reducible repeat (first | apply Kd.R_alloc | apply Kd.R_drewN | apply Kd.R_drew)); exact HO139.out))) (below_size (by repeat (first | (with_reducible first | exact HB.out | apply below_alloc | apply pw_below_drewN | apply below_drew1) | exact HB.out)))); have n3_ := Aside0.mk (below_step (by repeat (first | (with_reducible first | exact HB.out | apply below_alloc | apply pw_below_drewN | apply below_drew1) | exact HB.out)) hb); clear HO135; clear HO139; clear HB; have HO135 := n0_; have HO139 := n1_; have HO142 := n2_; have HB := n3_; clear n0_ n1_ n2_ n3_; (try clear hb); (try clear hb2); (try clear hk); (try clear hi); (try clear ho0)) | ((with_reducible refine gate_callee (f := 27) rfl ?_); refine goesL_ (some 17) rfl rfl Try.func27 (by kernel_rfl) rfl #[.int .i64 16, .int .i64 24] rfl (by (try simp only [List.map_toArray, List.map_cons, List.map_nil]); first | done | rfl | (simp only [List.length_drop, List.length_take]; rfl)) ?_; (with_reducible refine (dragomanlaw04_ten.calls 16 24 t143 t144 t145 t146 _ A5.out).mono ?_); rintro e w34 ⟨rfl, hb⟩; refine ⟨_, rfl, ?_⟩; have n0_ := Aside0.mk (Kd.R_below (by (with_reducible repeat (first | apply Kd.R_alloc | apply Kd.R_drewN | apply Kd.R_drew)); exact HO135.out) hb); have n1_ := Aside0.mk (Kd.R_below (by (with_reducible repeat (first | apply Kd.R_alloc | apply Kd.R_drewN | apply Kd.R_drew)); exact HO139.out) hb); have n2_ := Aside0.mk (Kd.R_below (by (with_reducible repeat (first | apply Kd.R_alloc | apply Kd.R_drewN | apply Kd.R_drew)); exact HO142.out) hb); have n3_ := Aside0.mk (below_step (by repeat (first | (with_reducible first | exact HB.out | apply below_alloc | apply pw_below_drewN | apply below_drew1) | exact HB.out)) hb); clear HO135; clear HO139; clear HO142; clear HB; have HO135 := n0_; have HO139 := n1_; have HO142 := n2_; have HB := n3_; clear n0_ n1_ n2_ n3_; (try clear hb); (try clear hb2); (try clear hk); (try clear hi)) | ((with_reducible refine gate_callee (f := 18) rfl ?_); refine goesL_ (some 19) rfl rfl Try.func18 (by kernel_rfl) rfl #[.agg #[.int .u32 t143, .int .i64 t144, .int .i64 t145, .int .i64 t146], .agg #[.int .u32 167837696, .int .i64 16]] rfl (by (try simp only [List.map_toArray, List.map_cons, List.map_nil]); first | done | rfl | (simp only [List.length_drop, List.length_take]; rfl)) ?_; (with_reducible refine (pfx_In.calls t143 t144 t145 t146 167837696 16 true _ A6.out).mono ?_); rintro e w35 ⟨rfl, hb⟩; refine ⟨_, rfl, ?_⟩; have n0_ := Aside0.mk (Kd.R_below (by (with_reducible repeat (first | apply Kd.R_alloc | apply Kd.R_drewN | apply Kd.R_drew)); exact HO135.out) hb); have n1_ := Aside0.mk (Kd.R_below (by (with_reducible repeat (first | apply Kd.R_alloc | apply Kd.R_drewN | apply Kd.R_drew)); exact HO139.out) hb); have n2_ := Aside0.mk (Kd.R_below (by (with_reducible repeat (first | apply Kd.R_alloc | apply Kd.R_drewN | apply Kd.R_drew)); exact HO142.out) hb); have n3_ := Aside0.mk (below_step (by repeat (first | (with_reducible first | exact HB.out | apply below_alloc | apply pw_below_drewN | apply below_drew1) | exact HB.out)) hb); clear HO135; clear HO139; clear HO142; clear HB; have HO135 := n0_; have HO139 := n1_; have HO142 := n2_; have HB := n3_; clear n0_ n1_ n2_ n3_; (try clear hb); (try clear hb2); (try clear hk); (try clear hi)) | (go_at_call 27; (with_reducible refine (dragomanlaw04_ten.calls 16 24 t148 t149 t150 t151 _ A8.out).mono ?_); rintro e w36 ⟨rfl, hb⟩; have n0_ := Aside0.mk (Kd.R_below (by (with_reducible repeat (first | apply Kd.R_alloc | apply Kd.R_drewN | apply Kd.R_drew)); exact HO135.out) hb); have n1_ := Aside0.mk (Kd.R_below (by (with_reducible repeat (first | apply Kd.R_alloc | apply Kd.R_drewN | apply Kd.R_drew)); exact HO139.out) hb); have n2_ := Aside0.mk (Kd.R_below (by (with_reducible repeat (first | apply Kd.R_alloc | apply Kd.R_drewN | apply Kd.R_drew)); exact HO142.out) hb); have n3_ := Aside0.mk (below_step (by repeat (first | (with_reducible first | exact HB.out | apply below_alloc | apply pw_below_drewN | apply below_drew1) | exact HB.out)) hb); clear HO135; clear HO139; clear HO142; clear HB; have HO135 := n0_; have HO139 := n1_; have HO142 := n2_; have HB := n3_; clear n0_ n1_ n2_ n3_; (try clear hb); (try clear hb2); (try clear hk); (try clear hi)) | (go_at_call 18; (with_reducible refine (pfx_In.calls t148 t149 t150 t151 167772160 8 false _ A9.out).mono ?_); rintro e w37 ⟨rfl, hb⟩; have n0_ := Aside0.mk (Kd.R_below (by (with_reducible repeat (first | apply Kd.R_alloc | apply Kd.R_drewN | apply Kd.R_drew)); exact HO135.out) hb); have n1_ := Aside0.mk (Kd.R_below (by (with_reducible repeat (first | apply Kd.R_alloc | apply Kd.R_drewN | apply Kd.R_drew)); exact HO139.out) hb); have n2_ := Aside0.mk (Kd.R_below (by (with_reducible repeat (first | apply Kd.R_alloc | apply Kd.R_drewN | apply Kd.R_drew)); exact HO142.out) hb); have n3_ := Aside0.mk (below_step (by repeat (first | (with_reducible first | exact HB.out | apply below_alloc | apply pw_below_drewN | apply below_drew1) | exact HB.out)) hb); clear HO135; clear HO139; clear HO142; clear HB; have HO135 := n0_; have HO139 := n1_; have HO142 := n2_; have HB := n3_; clear n0_ n1_ n2_ n3_; (try clear hb); (try clear hb2); (try clear hk); (try clear hi)) | (go_at_call 27; (with_reducible refine (dragomanlaw04_ten.calls 9 9 t153 t154 t155 t156 _ A23.out).mono ?_); rintro e w38 ⟨rfl, hb⟩; have n0_ := Aside0.mk (Kd.R_below (by (with_reducible repeat (first | apply Kd.R_alloc | apply Kd.R_drewN | apply Kd.R_drew)); exact HO135.out) hb); have n1_ := Aside0.mk (Kd.R_below (by (with_reducible repeat (first | apply Kd.R_alloc | apply Kd.R_drewN | apply Kd.R_drew)); exact HO139.out) hb); have n2_ := Aside0.mk (Kd.R_below (by (with_reducible repeat (first | apply Kd.R_alloc | apply Kd.R_drewN | apply Kd.R_drew)); exact HO142.out) hb); have n3_ := Aside0.mk (below_step (by repeat (first | (with_reducible first | exact HB.out | apply below_alloc | apply pw_below_drewN | apply below_drew1) | exact HB.out)) hb); clear HO135; clear HO139; clear HO142; clear HB; have HO135 := n0_; have HO139 := n1_; have HO142 := n2_; have HB := n3_; clear n0_ n1_ n2_ n3_; (try clear hb); (try clear hb2); (try clear hk); (try clear hi)) | ((with_reducible refine gate_dst (N := 33) rfl ?_); (try (refine gate_guard (by rfl) ?_; dsimp only)); refine Kd.R_lit k26 _ 26 ?hg (N := 33) ?hd (xs := ([(⟨(⟨t153, t154⟩ : S24), t155, t156⟩ : S26)] : List (S26))) (inner := [.int .u32 t153, .int .i64 t154, .int .i64 t155, .int .i64 t156]) (ok := fun _ => True) (okp := fun _ => True) ?hr ?hp (fun _ hk => hk) trivial (Below.refl _ _) (Nat.le_refl _) (by simp) ?_; (case hd => rfl); (case hg => rfl); (case hr => first | (go_simp; done) | (go_simp; rfl)); (case hp => exact (Reps.c4 (show Kd.M k26 _ _ _ (⟨(⟨t153, t154⟩ : S24), t155, t156⟩ : S26) [.int .u32 t153, .int .i64 t154, .int .i64 t155, .int .i64 t156] from (k26_mkM _ _ _ (⟨(⟨t153, t154⟩ : S24), t155, t156⟩ : S26) )) (Reps.none _ _))); intro v158 w39 ho40 hb hg_ hnew_; clear hg_ hnew_; (first | rw [← Ny157.out] at ho40 | (simp only [Int.reduceToNat] at ho40; rw [← Ny157.out] at ho40)); have n0_ := Aside0.mk (Kd.R_below (by (with_reducible repeat (first | apply Kd.R_alloc | apply Kd.R_drewN | apply Kd.R_drew)); exact HO135.out) hb); have n1_ := Aside0.mk (Kd.R_elder' (by (with_reducible repeat (first | apply Kd.R_alloc | apply Kd.R_drewN | apply Kd.R_drew)); exact HO139.out) (Kd.R_base ho40) hb); have n2_ := Aside0.mk (Kd.R_elder' (by (with_reducible repeat (first | apply Kd.R_alloc | apply Kd.R_drewN | apply Kd.R_drew)); exact HO142.out) (Kd.R_base ho40) hb); have n3_ := Aside0.mk (Kd.R_lower (Kd.R_new' (Kd.R_new' ho40 (Kd.R_lt (by (with_reducible repeat (first | apply Kd.R_alloc | apply Kd.R_drewN | apply Kd.R_drew)); exact HO139.out))) (Kd.R_lt (by (with_reducible repeat (first | apply Kd.R_alloc | apply Kd.R_drewN | apply Kd.R_drew)); exact HO142.out))) (below_size (by repeat (first | (with_reducible first | exact HB.out | apply below_alloc | apply pw_below_drewN | apply below_drew1) | exact HB.out)))); have n4_ := Aside0.mk (below_step (by repeat (first | (with_reducible first | exact HB.out | apply below_alloc | apply pw_below_drewN | apply below_drew1) | exact HB.out)) hb); clear HO135; clear HO139; clear HO142; clear HB; have HO135 := n0_; have HO139 := n1_; have HO142 := n2_; have HO159 := n3_; have HB := n4_; clear n0_ n1_ n2_ n3_ n4_; clear hb ho40; obtain ⟨Ao41, co41, eo41⟩ := Kd.R_slice HO139.out; subst eo41; obtain ⟨Ao42, co42, eo42⟩ := Kd.R_slice HO159.out; subst eo42) | (go_at_call 13; (with_reducible refine (dragomanref04_Same.calls k _ _ t136 _ _ y157 true _ ?side1 ?side2 ?side3 ?side4 A24.out).mono ?_); (case side1 => repeat (first | exact (Kd.R_reads' HO139.out).2.2 | (with_reducible refine Kd.C_alloc ?_ _) | (with_reducible refine Kd.C_drewN ?_ _) | (with_reducible refine Kd.C_drew ?_))); (case side2 => exact (Kd.R_reads' HO139.out).2.1); (case side3 => repeat (first | exact (Kd.R_reads' HO159.out).2.2 | (with_reducible refine Kd.C_alloc ?_ _) | (with_reducible refine Kd.C_drewN ?_ _) | (with_reducible refine Kd.C_drew ?_))); (case side4 => exact (Kd.R_reads' HO159.out).2.1); rintro e w' ⟨rfl, ⟨nd, rfl⟩⟩) | ((with_reducible refine gate_dst (N := 41) rfl ?_); (try (refine gate_guard (by rfl) ?_; dsimp only)); refine Kd.R_lit k26 _ 26 ?hg (N := 41) ?hd (xs := ([(⟨(⟨0, 0⟩ : S24), 0, 0⟩ : S26), (⟨(⟨0, 1⟩ : S24), 1, 2⟩ : S26)] : List (S26))) (inner := [.int .u32 0, .int .i64 0, .int .i64 0, .int .i64 0, .int .u32 0, .int .i64 1, .int .i64 1, .int .i64 2]) (ok := fun _ => True) (okp := fun _ => True) ?hr ?hp (fun _ hk => hk) trivial (Below.refl _ _) (Nat.le_refl _) (by simp) ?_; (case hd => rfl); (case hg => rfl); (case hr => first | (go_simp; done) | (go_simp; rfl)); (case hp => exact (Reps.c4 (show Kd.M k26 _ _ _ (⟨(⟨0, 0⟩ : S24), 0, 0⟩ : S26) [.int .u32 0, .int .i64 0, .int .i64 0, .int .i64 0] from (k26_mkM _ _ _ (⟨(⟨0, 0⟩ : S24), 0, 0⟩ : S26) )) (Reps.c4 (show Kd.M k26 _ _ _ (⟨(⟨0, 1⟩ : S24), 1, 2⟩ : S26) [.int .u32 0, .int .i64 1, .int .i64 1, .int .i64 2] from (k26_mkM _ _ _ (⟨(⟨0, 1⟩ : S24), 1, 2⟩ : S26) )) (Reps.none _ _)))); intro v162 w43 ho44 hb hg_ hnew_; clear hg_ hnew_; (first | rw [← Ny161.out] at ho44 | (simp only [Int.reduceToNat] at ho44; rw [← Ny161.out] at ho44)); have n0_ := Aside0.mk (Kd.R_below (by (with_reducible repeat (first | apply Kd.R_alloc | apply Kd.R_drewN | apply Kd.R_drew)); exact HO135.out) hb); have n1_ := Aside0.mk (Kd.R_elder' (by (with_reducible repeat (first | apply Kd.R_alloc | apply Kd.R_drewN | apply Kd.R_drew)); exact HO139.out) (Kd.R_base ho44) hb); have n2_ := Aside0.mk (Kd.R_elder' (by (with_reducible repeat (first | apply Kd.R_alloc | apply Kd.R_drewN | apply Kd.R_drew)); exact HO142.out) (Kd.R_base ho44) hb); have n3_ := Aside0.mk (Kd.R_elder' (by (with_reducible repeat (first | apply Kd.R_alloc | apply Kd.R_drewN | apply Kd.R_drew)); exact HO159.out) (Kd.R_base ho44) hb); have n4_ := Aside0.mk (Kd.R_lower (Kd.R_new' (Kd.R_new' (Kd.R_new' ho44 (Kd.R_lt (by (with_reducible repeat (first | apply Kd.R_alloc | apply Kd.R_drewN | apply Kd.R_drew)); exact HO139.out))) (Kd.R_lt (by (with_reducible repeat (first | apply Kd.R_alloc | apply Kd.R_drewN | apply Kd.R_drew)); exact HO142.out))) (Kd.R_lt (by (with_reducible repeat (first | apply Kd.R_alloc | apply Kd.R_drewN | apply Kd.R_drew)); exact HO159.out))) (below_size (by repeat (first | (with_reducible first | exact HB.out | apply below_alloc | apply pw_below_drewN | apply below_drew1) | exact HB.out)))); have n5_ := Aside0.mk (below_step (by repeat (first | (with_reducible first | exact HB.out | apply below_alloc | apply pw_below_drewN | apply below_drew1) | exact HB.out)) hb); clear HO135; clear HO139; clear HO142; clear HO159; clear HB; have HO135 := n0_; have HO139 := n1_; have HO142 := n2_; have HO159 := n3_; have HO163 := n4_; have HB := n5_; clear n0_ n1_ n2_ n3_ n4_ n5_; clear hb ho44; obtain ⟨Ao45, co45, eo45⟩ := Kd.R_slice HO142.out; subst eo45; obtain ⟨Ao46, co46, eo46⟩ := Kd.R_slice HO163.out; subst eo46) | (go_at_call 13; (with_reducible refine (dragomanref04_Same.calls k _ _ t140 _ _ y161 t164 _ ?side1 ?side2 ?side3 ?side4 A26.out).mono ?_); (case side1 => repeat (first | exact (Kd.R_reads' HO142.out).2.2 | (with_reducible refine Kd.C_alloc ?_ _) | (with_reducible refine Kd.C_drewN ?_ _) | (with_reducible refine Kd.C_drew ?_))); (case side2 => exact (Kd.R_reads' HO142.out).2.1); (case side3 => repeat (first | exact (Kd.R_reads' HO163.out).2.2 | (with_reducible refine Kd.C_alloc ?_ _) | (with_reducible refine Kd.C_drewN ?_ _) | (with_reducible refine Kd.C_drew ?_))); (case side4 => exact (Kd.R_reads' HO163.out).2.1); rintro e w' ⟨rfl, ⟨nd, rfl⟩⟩))
          go_ret
          exact ⟨by first | rfl | (simp [errW_none, errW_some] <;> rfl) | (simp [*, errW_none, errW_some] <;> rfl), by repeat (first | (with_reducible first | exact HB.out | apply below_alloc | apply pw_below_drewN | apply below_drew1) | exact HB.out)⟩
        · replace c25 := Bool.eq_false_iff.mpr c25
          subst c25
          have H1 : (some false) = some r := by rw [if_neg (show ¬ (false = true) by decide)] at H; exact H
          clear H
          have H := H1
          clear H1
          obtain rfl := Option.some.inj H
          go_enter Try.func10, Try.ntmps10
          go_wp2_with (first | ((with_reducible refine gate_callee (f := 27) rfl ?_); refine goesL_ (some 5) rfl rfl Try.func27 (by kernel_rfl) rfl #[.int .i64 8, .int .i64 8] rfl (by (try simp only [List.map_toArray, List.map_cons, List.map_nil]); first | done | rfl | (simp only [List.length_drop, List.length_take]; rfl)) ?_; (with_reducible refine (dragomanlaw04_ten.calls 8 8 t125 t126 t127 t128 _ A1.out).mono ?_); rintro e w47 ⟨rfl, hb⟩; refine ⟨_, rfl, ?_⟩; have n0_ := Aside0.mk (below_step (by repeat (first | (with_reducible first | exact HB.out | apply below_alloc | apply pw_below_drewN | apply below_drew1) | exact HB.out)) hb); clear HB; have HB := n0_; clear n0_; (try clear hb); (try clear hb2); (try clear hk); (try clear hi)) | ((with_reducible refine gate_callee (f := 27) rfl ?_); refine goesL_ (some 7) rfl rfl Try.func27 (by kernel_rfl) rfl #[.int .i64 8, .int .i64 9] rfl (by (try simp only [List.map_toArray, List.map_cons, List.map_nil]); first | done | rfl | (simp only [List.length_drop, List.length_take]; rfl)) ?_; (with_reducible refine (dragomanlaw04_ten.calls 8 9 t129 t130 t131 t132 _ A2.out).mono ?_); rintro e w48 ⟨rfl, hb⟩; refine ⟨_, rfl, ?_⟩; have n0_ := Aside0.mk (below_step (by repeat (first | (with_reducible first | exact HB.out | apply below_alloc | apply pw_below_drewN | apply below_drew1) | exact HB.out)) hb); clear HB; have HB := n0_; clear n0_; (try clear hb); (try clear hb2); (try clear hk); (try clear hi)) | ((with_reducible refine gate_dst (N := 9) rfl ?_); (try (refine gate_guard (by rfl) ?_; dsimp only)); refine Kd.R_lit k41 _ 41 ?hg (N := 9) ?hd (xs := ([(⟨true, (⟨(⟨t125, t126⟩ : S24), t127, t128⟩ : S26)⟩ : S41), (⟨false, (⟨(⟨t129, t130⟩ : S24), t131, t132⟩ : S26)⟩ : S41)] : List (S41))) (inner := [.bool true, .int .u32 t125, .int .i64 t126, .int .i64 t127, .int .i64 t128, .bool false, .int .u32 t129, .int .i64 t130, .int .i64 t131, .int .i64 t132]) (ok := fun _ => True) (okp := fun _ => True) ?hr ?hp (fun _ hk => hk) trivial (Below.refl _ _) (Nat.le_refl _) (by simp) ?_; (case hd => rfl); (case hg => rfl); (case hr => first | (go_simp; done) | (go_simp; rfl)); (case hp => exact (Reps.c5 (show Kd.M k41 _ _ _ (⟨true, (⟨(⟨t125, t126⟩ : S24), t127, t128⟩ : S26)⟩ : S41) [.bool true, .int .u32 t125, .int .i64 t126, .int .i64 t127, .int .i64 t128] from (k41_mkM _ _ _ (⟨true, (⟨(⟨t125, t126⟩ : S24), t127, t128⟩ : S26)⟩ : S41) )) (Reps.c5 (show Kd.M k41 _ _ _ (⟨false, (⟨(⟨t129, t130⟩ : S24), t131, t132⟩ : S26)⟩ : S41) [.bool false, .int .u32 t129, .int .i64 t130, .int .i64 t131, .int .i64 t132] from (k41_mkM _ _ _ (⟨false, (⟨(⟨t129, t130⟩ : S24), t131, t132⟩ : S26)⟩ : S41) )) (Reps.none _ _)))); intro v134 w49 ho50 hb hg_ hnew_; clear hg_ hnew_; (first | rw [← Ny133.out] at ho50 | (simp only [Int.reduceToNat] at ho50; rw [← Ny133.out] at ho50)); have n0_ := Aside0.mk (Kd.R_lower ho50 (below_size (by repeat (first | (with_reducible first | exact HB.out | apply below_alloc | apply pw_below_drewN | apply below_drew1) | exact HB.out)))); have n1_ := Aside0.mk (below_step (by repeat (first | (with_reducible first | exact HB.out | apply below_alloc | apply pw_below_drewN | apply below_drew1) | exact HB.out)) hb); clear HB; have HO135 := n0_; have HB := n1_; clear n0_ n1_; clear hb ho50; obtain ⟨Ao51, co51, eo51⟩ := Kd.R_slice HO135.out; subst eo51) | ((with_reducible refine gate_callee (f := 16) rfl ?_); refine goesL_ (some 10) rfl rfl Try.func16 (by kernel_rfl) rfl #[.slice Ao51 y133.length co51] rfl (by (try simp only [List.map_toArray, List.map_cons, List.map_nil]); first | done | rfl | (simp only [List.length_drop, List.length_take]; rfl)) ?_; (with_reducible refine (pfx_Flat.calls k _ _ y133 t136 t137 _ ?side1 ?side2 A3.out).mono ?_); (case side1 => repeat (first | exact (Kd.R_reads' HO135.out).2.2 | (with_reducible refine Kd.C_alloc ?_ _) | (with_reducible refine Kd.C_drewN ?_ _) | (with_reducible refine Kd.C_drew ?_))); (case side2 => exact (Kd.R_reads' HO135.out).2.1); rintro e w52 ⟨v138, rfl, ho0, hb⟩; refine ⟨_, rfl, ?_⟩; have n0_ := Aside0.mk (Kd.R_below (by (with_reducible repeat (first | apply Kd.R_alloc | apply Kd.R_drewN | apply Kd.R_drew)); exact HO135.out) hb); have n1_ := Aside0.mk (Kd.R_lower ho0 (below_size (by repeat (first | (with_reducible first | exact HB.out | apply below_alloc | apply pw_below_drewN | apply below_drew1) | exact HB.out)))); have n2_ := Aside0.mk (below_step (by repeat (first | (with_reducible first | exact HB.out | apply below_alloc | apply pw_below_drewN | apply below_drew1) | exact HB.out)) hb); clear HO135; clear HB; have HO135 := n0_; have HO139 := n1_; have HB := n2_; clear n0_ n1_ n2_; (try clear hb); (try clear hb2); (try clear hk); (try clear hi); (try clear ho0)) | ((with_reducible refine gate_callee (f := 14) rfl ?_); refine goesL_ (some 16) rfl rfl Try.func14 (by kernel_rfl) rfl #[.agg #[.int .u32 0, .int .i64 0, .int .i64 0, .int .i64 2], .agg #[.int .u32 2147483648, .int .i64 1, .int .i64 1, .int .i64 2]] rfl (by (try simp only [List.map_toArray, List.map_cons, List.map_nil]); first | done | rfl | (simp only [List.length_drop, List.length_take]; rfl)) ?_; (with_reducible refine (pfx_Minus.calls k 0 0 0 2 2147483648 1 1 2 t140 _ A4.out).mono ?_); rintro e w53 ⟨v141, rfl, ho0, hb⟩; refine ⟨_, rfl, ?_⟩; have n0_ := Aside0.mk (Kd.R_below (by (with_reducible repeat (first | apply Kd.R_alloc | apply Kd.R_drewN | apply Kd.R_drew)); exact HO135.out) hb); have n1_ := Aside0.mk (Kd.R_elder' (by (with_reducible repeat (first | apply Kd.R_alloc | apply Kd.R_drewN | apply Kd.R_drew)); exact HO139.out) (Kd.R_base ho0) hb); have n2_ := Aside0.mk (Kd.R_lower (Kd.R_new' ho0 (Kd.R_lt (by (with_reducible repeat (first | apply Kd.R_alloc | apply Kd.R_drewN | apply Kd.R_drew)); exact HO139.out))) (below_size (by repeat (first | (with_reducible first | exact HB.out | apply below_alloc | apply pw_below_drewN | apply below_drew1) | exact HB.out)))); have n3_ := Aside0.mk (below_step (by repeat (first | (with_reducible first | exact HB.out | apply below_alloc | apply pw_below_drewN | apply below_drew1) | exact HB.out)) hb); clear HO135; clear HO139; clear HB; have HO135 := n0_; have HO139 := n1_; have HO142 := n2_; have HB := n3_; clear n0_ n1_ n2_ n3_; (try clear hb); (try clear hb2); (try clear hk); (try clear hi); (try clear ho0)) | ((with_reducible refine gate_callee (f := 27) rfl ?_); refine goesL_ (some 17) rfl rfl Try.func27 (by kernel_rfl) rfl #[.int .i64 16, .int .i64 24] rfl (by (try simp only [List.map_toArray, List.map_cons, List.map_nil]); first | done | rfl | (simp only [List.length_drop, List.length_take]; rfl)) ?_; (with_reducible refine (dragomanlaw04_ten.calls 16 24 t143 t144 t145 t146 _ A5.out).mono ?_); rintro e w54 ⟨rfl, hb⟩; refine ⟨_, rfl, ?_⟩; have n0_ := Aside0.mk (Kd.R_below (by (with_reducible repeat (first | apply Kd.R_alloc | apply Kd.R_drewN | apply Kd.R_drew)); exact HO135.out) hb); have n1_ := Aside0.mk (Kd.R_below (by (with_reducible repeat (first | apply Kd.R_alloc | apply Kd.R_drewN | apply Kd.R_drew)); exact HO139.out) hb); have n2_ := Aside0.mk (Kd.R_below (by (with_reducible repeat (first | apply Kd.R_alloc | apply Kd.R_drewN | apply Kd.R_drew)); exact HO142.out) hb); have n3_ := Aside0.mk (below_step (by repeat (first | (with_reducible first | exact HB.out | apply below_alloc | apply pw_below_drewN | apply below_drew1) | exact HB.out)) hb); clear HO135; clear HO139; clear HO142; clear HB; have HO135 := n0_; have HO139 := n1_; have HO142 := n2_; have HB := n3_; clear n0_ n1_ n2_ n3_; (try clear hb); (try clear hb2); (try clear hk); (try clear hi)) | ((with_reducible refine gate_callee (f := 18) rfl ?_); refine goesL_ (some 19) rfl rfl Try.func18 (by kernel_rfl) rfl #[.agg #[.int .u32 t143, .int .i64 t144, .int .i64 t145, .int .i64 t146], .agg #[.int .u32 167837696, .int .i64 16]] rfl (by (try simp only [List.map_toArray, List.map_cons, List.map_nil]); first | done | rfl | (simp only [List.length_drop, List.length_take]; rfl)) ?_; (with_reducible refine (pfx_In.calls t143 t144 t145 t146 167837696 16 true _ A6.out).mono ?_); rintro e w55 ⟨rfl, hb⟩; refine ⟨_, rfl, ?_⟩; have n0_ := Aside0.mk (Kd.R_below (by (with_reducible repeat (first | apply Kd.R_alloc | apply Kd.R_drewN | apply Kd.R_drew)); exact HO135.out) hb); have n1_ := Aside0.mk (Kd.R_below (by (with_reducible repeat (first | apply Kd.R_alloc | apply Kd.R_drewN | apply Kd.R_drew)); exact HO139.out) hb); have n2_ := Aside0.mk (Kd.R_below (by (with_reducible repeat (first | apply Kd.R_alloc | apply Kd.R_drewN | apply Kd.R_drew)); exact HO142.out) hb); have n3_ := Aside0.mk (below_step (by repeat (first | (with_reducible first | exact HB.out | apply below_alloc | apply pw_below_drewN | apply below_drew1) | exact HB.out)) hb); clear HO135; clear HO139; clear HO142; clear HB; have HO135 := n0_; have HO139 := n1_; have HO142 := n2_; have HB := n3_; clear n0_ n1_ n2_ n3_; (try clear hb); (try clear hb2); (try clear hk); (try clear hi)) | (go_at_call 27; (with_reducible refine (dragomanlaw04_ten.calls 16 24 t148 t149 t150 t151 _ A8.out).mono ?_); rintro e w56 ⟨rfl, hb⟩; have n0_ := Aside0.mk (Kd.R_below (by (with_reducible repeat (first | apply Kd.R_alloc | apply Kd.R_drewN | apply Kd.R_drew)); exact HO135.out) hb); have n1_ := Aside0.mk (Kd.R_below (by (with_reducible repeat (first | apply Kd.R_alloc | apply Kd.R_drewN | apply Kd.R_drew)); exact HO139.out) hb); have n2_ := Aside0.mk (Kd.R_below (by (with_reducible repeat (first | apply Kd.R_alloc | apply Kd.R_drewN | apply Kd.R_drew)); exact HO142.out) hb); have n3_ := Aside0.mk (below_step (by repeat (first | (with_reducible first | exact HB.out | apply below_alloc | apply pw_below_drewN | apply below_drew1) | exact HB.out)) hb); clear HO135; clear HO139; clear HO142; clear HB; have HO135 := n0_; have HO139 := n1_; have HO142 := n2_; have HB := n3_; clear n0_ n1_ n2_ n3_; (try clear hb); (try clear hb2); (try clear hk); (try clear hi)) | (go_at_call 18; (with_reducible refine (pfx_In.calls t148 t149 t150 t151 167772160 8 false _ A9.out).mono ?_); rintro e w57 ⟨rfl, hb⟩; have n0_ := Aside0.mk (Kd.R_below (by (with_reducible repeat (first | apply Kd.R_alloc | apply Kd.R_drewN | apply Kd.R_drew)); exact HO135.out) hb); have n1_ := Aside0.mk (Kd.R_below (by (with_reducible repeat (first | apply Kd.R_alloc | apply Kd.R_drewN | apply Kd.R_drew)); exact HO139.out) hb); have n2_ := Aside0.mk (Kd.R_below (by (with_reducible repeat (first | apply Kd.R_alloc | apply Kd.R_drewN | apply Kd.R_drew)); exact HO142.out) hb); have n3_ := Aside0.mk (below_step (by repeat (first | (with_reducible first | exact HB.out | apply below_alloc | apply pw_below_drewN | apply below_drew1) | exact HB.out)) hb); clear HO135; clear HO139; clear HO142; clear HB; have HO135 := n0_; have HO139 := n1_; have HO142 := n2_; have HB := n3_; clear n0_ n1_ n2_ n3_; (try clear hb); (try clear hb2); (try clear hk); (try clear hi)) | (go_at_call 27; (with_reducible refine (dragomanlaw04_ten.calls 9 9 t153 t154 t155 t156 _ A23.out).mono ?_); rintro e w58 ⟨rfl, hb⟩; have n0_ := Aside0.mk (Kd.R_below (by (with_reducible repeat (first | apply Kd.R_alloc | apply Kd.R_drewN | apply Kd.R_drew)); exact HO135.out) hb); have n1_ := Aside0.mk (Kd.R_below (by (with_reducible repeat (first | apply Kd.R_alloc | apply Kd.R_drewN | apply Kd.R_drew)); exact HO139.out) hb); have n2_ := Aside0.mk (Kd.R_below (by (with_reducible repeat (first | apply Kd.R_alloc | apply Kd.R_drewN | apply Kd.R_drew)); exact HO142.out) hb); have n3_ := Aside0.mk (below_step (by repeat (first | (with_reducible first | exact HB.out | apply below_alloc | apply pw_below_drewN | apply below_drew1) | exact HB.out)) hb); clear HO135; clear HO139; clear HO142; clear HB; have HO135 := n0_; have HO139 := n1_; have HO142 := n2_; have HB := n3_; clear n0_ n1_ n2_ n3_; (try clear hb); (try clear hb2); (try clear hk); (try clear hi)) | ((with_reducible refine gate_dst (N := 33) rfl ?_); (try (refine gate_guard (by rfl) ?_; dsimp only)); refine Kd.R_lit k26 _ 26 ?hg (N := 33) ?hd (xs := ([(⟨(⟨t153, t154⟩ : S24), t155, t156⟩ : S26)] : List (S26))) (inner := [.int .u32 t153, .int .i64 t154, .int .i64 t155, .int .i64 t156]) (ok := fun _ => True) (okp := fun _ => True) ?hr ?hp (fun _ hk => hk) trivial (Below.refl _ _) (Nat.le_refl _) (by simp) ?_; (case hd => rfl); (case hg => rfl); (case hr => first | (go_simp; done) | (go_simp; rfl)); (case hp => exact (Reps.c4 (show Kd.M k26 _ _ _ (⟨(⟨t153, t154⟩ : S24), t155, t156⟩ : S26) [.int .u32 t153, .int .i64 t154, .int .i64 t155, .int .i64 t156] from (k26_mkM _ _ _ (⟨(⟨t153, t154⟩ : S24), t155, t156⟩ : S26) )) (Reps.none _ _))); intro v158 w59 ho60 hb hg_ hnew_; clear hg_ hnew_; (first | rw [← Ny157.out] at ho60 | (simp only [Int.reduceToNat] at ho60; rw [← Ny157.out] at ho60)); have n0_ := Aside0.mk (Kd.R_below (by (with_reducible repeat (first | apply Kd.R_alloc | apply Kd.R_drewN | apply Kd.R_drew)); exact HO135.out) hb); have n1_ := Aside0.mk (Kd.R_elder' (by (with_reducible repeat (first | apply Kd.R_alloc | apply Kd.R_drewN | apply Kd.R_drew)); exact HO139.out) (Kd.R_base ho60) hb); have n2_ := Aside0.mk (Kd.R_elder' (by (with_reducible repeat (first | apply Kd.R_alloc | apply Kd.R_drewN | apply Kd.R_drew)); exact HO142.out) (Kd.R_base ho60) hb); have n3_ := Aside0.mk (Kd.R_lower (Kd.R_new' (Kd.R_new' ho60 (Kd.R_lt (by (with_reducible repeat (first | apply Kd.R_alloc | apply Kd.R_drewN | apply Kd.R_drew)); exact HO139.out))) (Kd.R_lt (by (with_reducible repeat (first | apply Kd.R_alloc | apply Kd.R_drewN | apply Kd.R_drew)); exact HO142.out))) (below_size (by repeat (first | (with_reducible first | exact HB.out | apply below_alloc | apply pw_below_drewN | apply below_drew1) | exact HB.out)))); have n4_ := Aside0.mk (below_step (by repeat (first | (with_reducible first | exact HB.out | apply below_alloc | apply pw_below_drewN | apply below_drew1) | exact HB.out)) hb); clear HO135; clear HO139; clear HO142; clear HB; have HO135 := n0_; have HO139 := n1_; have HO142 := n2_; have HO159 := n3_; have HB := n4_; clear n0_ n1_ n2_ n3_ n4_; clear hb ho60; obtain ⟨Ao61, co61, eo61⟩ := Kd.R_slice HO139.out; subst eo61; obtain ⟨Ao62, co62, eo62⟩ := Kd.R_slice HO159.out; subst eo62) | (go_at_call 13; (with_reducible refine (dragomanref04_Same.calls k _ _ t136 _ _ y157 false _ ?side1 ?side2 ?side3 ?side4 A24.out).mono ?_); (case side1 => repeat (first | exact (Kd.R_reads' HO139.out).2.2 | (with_reducible refine Kd.C_alloc ?_ _) | (with_reducible refine Kd.C_drewN ?_ _) | (with_reducible refine Kd.C_drew ?_))); (case side2 => exact (Kd.R_reads' HO139.out).2.1); (case side3 => repeat (first | exact (Kd.R_reads' HO159.out).2.2 | (with_reducible refine Kd.C_alloc ?_ _) | (with_reducible refine Kd.C_drewN ?_ _) | (with_reducible refine Kd.C_drew ?_))); (case side4 => exact (Kd.R_reads' HO159.out).2.1); rintro e w' ⟨rfl, ⟨nd, rfl⟩⟩))
          go_ret
          exact ⟨by first | rfl | (simp [errW_none, errW_some] <;> rfl) | (simp [*, errW_none, errW_some] <;> rfl), by repeat (first | (with_reducible first | exact HB.out | apply below_alloc | apply pw_below_drewN | apply below_drew1) | exact HB.out)⟩
      · rw [if_neg c22] at H
        have c22b0 : (t137 == 0) = false := beq_eq_false_iff_ne.mpr c22
        have c22b1 : (t137 != 0) = true := bne_iff_ne.mpr c22
        obtain rfl := Option.some.inj H
        go_enter Try.func10, Try.ntmps10
        go_wp2_with (first | ((with_reducible refine gate_callee (f := 27) rfl ?_); refine goesL_ (some 5) rfl rfl Try.func27 (by kernel_rfl) rfl #[.int .i64 8, .int .i64 8] rfl (by (try simp only [List.map_toArray, List.map_cons, List.map_nil]); first | done | rfl | (simp only [List.length_drop, List.length_take]; rfl)) ?_; (with_reducible refine (dragomanlaw04_ten.calls 8 8 t125 t126 t127 t128 _ A1.out).mono ?_); rintro e w63 ⟨rfl, hb⟩; refine ⟨_, rfl, ?_⟩; have n0_ := Aside0.mk (below_step (by repeat (first | (with_reducible first | exact HB.out | apply below_alloc | apply pw_below_drewN | apply below_drew1) | exact HB.out)) hb); clear HB; have HB := n0_; clear n0_; (try clear hb); (try clear hb2); (try clear hk); (try clear hi)) | ((with_reducible refine gate_callee (f := 27) rfl ?_); refine goesL_ (some 7) rfl rfl Try.func27 (by kernel_rfl) rfl #[.int .i64 8, .int .i64 9] rfl (by (try simp only [List.map_toArray, List.map_cons, List.map_nil]); first | done | rfl | (simp only [List.length_drop, List.length_take]; rfl)) ?_; (with_reducible refine (dragomanlaw04_ten.calls 8 9 t129 t130 t131 t132 _ A2.out).mono ?_); rintro e w64 ⟨rfl, hb⟩; refine ⟨_, rfl, ?_⟩; have n0_ := Aside0.mk (below_step (by repeat (first | (with_reducible first | exact HB.out | apply below_alloc | apply pw_below_drewN | apply below_drew1) | exact HB.out)) hb); clear HB; have HB := n0_; clear n0_; (try clear hb); (try clear hb2); (try clear hk); (try clear hi)) | ((with_reducible refine gate_dst (N := 9) rfl ?_); (try (refine gate_guard (by rfl) ?_; dsimp only)); refine Kd.R_lit k41 _ 41 ?hg (N := 9) ?hd (xs := ([(⟨true, (⟨(⟨t125, t126⟩ : S24), t127, t128⟩ : S26)⟩ : S41), (⟨false, (⟨(⟨t129, t130⟩ : S24), t131, t132⟩ : S26)⟩ : S41)] : List (S41))) (inner := [.bool true, .int .u32 t125, .int .i64 t126, .int .i64 t127, .int .i64 t128, .bool false, .int .u32 t129, .int .i64 t130, .int .i64 t131, .int .i64 t132]) (ok := fun _ => True) (okp := fun _ => True) ?hr ?hp (fun _ hk => hk) trivial (Below.refl _ _) (Nat.le_refl _) (by simp) ?_; (case hd => rfl); (case hg => rfl); (case hr => first | (go_simp; done) | (go_simp; rfl)); (case hp => exact (Reps.c5 (show Kd.M k41 _ _ _ (⟨true, (⟨(⟨t125, t126⟩ : S24), t127, t128⟩ : S26)⟩ : S41) [.bool true, .int .u32 t125, .int .i64 t126, .int .i64 t127, .int .i64 t128] from (k41_mkM _ _ _ (⟨true, (⟨(⟨t125, t126⟩ : S24), t127, t128⟩ : S26)⟩ : S41) )) (Reps.c5 (show Kd.M k41 _ _ _ (⟨false, (⟨(⟨t129, t130⟩ : S24), t131, t132⟩ : S26)⟩ : S41) [.bool false, .int .u32 t129, .int .i64 t130, .int .i64 t131, .int .i64 t132] from (k41_mkM _ _ _ (⟨false, (⟨(⟨t129, t130⟩ : S24), t131, t132⟩ : S26)⟩ : S41) )) (Reps.none _ _)))); intro v134 w65 ho66 hb hg_ hnew_; clear hg_ hnew_; (first | rw [← Ny133.out] at ho66 | (simp only [Int.reduceToNat] at ho66; rw [← Ny133.out] at ho66)); have n0_ := Aside0.mk (Kd.R_lower ho66 (below_size (by repeat (first | (with_reducible first | exact HB.out | apply below_alloc | apply pw_below_drewN | apply below_drew1) | exact HB.out)))); have n1_ := Aside0.mk (below_step (by repeat (first | (with_reducible first | exact HB.out | apply below_alloc | apply pw_below_drewN | apply below_drew1) | exact HB.out)) hb); clear HB; have HO135 := n0_; have HB := n1_; clear n0_ n1_; clear hb ho66; obtain ⟨Ao67, co67, eo67⟩ := Kd.R_slice HO135.out; subst eo67) | ((with_reducible refine gate_callee (f := 16) rfl ?_); refine goesL_ (some 10) rfl rfl Try.func16 (by kernel_rfl) rfl #[.slice Ao67 y133.length co67] rfl (by (try simp only [List.map_toArray, List.map_cons, List.map_nil]); first | done | rfl | (simp only [List.length_drop, List.length_take]; rfl)) ?_; (with_reducible refine (pfx_Flat.calls k _ _ y133 t136 t137 _ ?side1 ?side2 A3.out).mono ?_); (case side1 => repeat (first | exact (Kd.R_reads' HO135.out).2.2 | (with_reducible refine Kd.C_alloc ?_ _) | (with_reducible refine Kd.C_drewN ?_ _) | (with_reducible refine Kd.C_drew ?_))); (case side2 => exact (Kd.R_reads' HO135.out).2.1); rintro e w68 ⟨v138, rfl, ho0, hb⟩; refine ⟨_, rfl, ?_⟩; have n0_ := Aside0.mk (Kd.R_below (by (with_reducible repeat (first | apply Kd.R_alloc | apply Kd.R_drewN | apply Kd.R_drew)); exact HO135.out) hb); have n1_ := Aside0.mk (Kd.R_lower ho0 (below_size (by repeat (first | (with_reducible first | exact HB.out | apply below_alloc | apply pw_below_drewN | apply below_drew1) | exact HB.out)))); have n2_ := Aside0.mk (below_step (by repeat (first | (with_reducible first | exact HB.out | apply below_alloc | apply pw_below_drewN | apply below_drew1) | exact HB.out)) hb); clear HO135; clear HB; have HO135 := n0_; have HO139 := n1_; have HB := n2_; clear n0_ n1_ n2_; (try clear hb); (try clear hb2); (try clear hk); (try clear hi); (try clear ho0)) | ((with_reducible refine gate_callee (f := 14) rfl ?_); refine goesL_ (some 16) rfl rfl Try.func14 (by kernel_rfl) rfl #[.agg #[.int .u32 0, .int .i64 0, .int .i64 0, .int .i64 2], .agg #[.int .u32 2147483648, .int .i64 1, .int .i64 1, .int .i64 2]] rfl (by (try simp only [List.map_toArray, List.map_cons, List.map_nil]); first | done | rfl | (simp only [List.length_drop, List.length_take]; rfl)) ?_; (with_reducible refine (pfx_Minus.calls k 0 0 0 2 2147483648 1 1 2 t140 _ A4.out).mono ?_); rintro e w69 ⟨v141, rfl, ho0, hb⟩; refine ⟨_, rfl, ?_⟩; have n0_ := Aside0.mk (Kd.R_below (by (with_reducible repeat (first | apply Kd.R_alloc | apply Kd.R_drewN | apply Kd.R_drew)); exact HO135.out) hb); have n1_ := Aside0.mk (Kd.R_elder' (by (with_reducible repeat (first | apply Kd.R_alloc | apply Kd.R_drewN | apply Kd.R_drew)); exact HO139.out) (Kd.R_base ho0) hb); have n2_ := Aside0.mk (Kd.R_lower (Kd.R_new' ho0 (Kd.R_lt (by (with_reducible repeat (first | apply Kd.R_alloc | apply Kd.R_drewN | apply Kd.R_drew)); exact HO139.out))) (below_size (by repeat (first | (with_reducible first | exact HB.out | apply below_alloc | apply pw_below_drewN | apply below_drew1) | exact HB.out)))); have n3_ := Aside0.mk (below_step (by repeat (first | (with_reducible first | exact HB.out | apply below_alloc | apply pw_below_drewN | apply below_drew1) | exact HB.out)) hb); clear HO135; clear HO139; clear HB; have HO135 := n0_; have HO139 := n1_; have HO142 := n2_; have HB := n3_; clear n0_ n1_ n2_ n3_; (try clear hb); (try clear hb2); (try clear hk); (try clear hi); (try clear ho0)) | ((with_reducible refine gate_callee (f := 27) rfl ?_); refine goesL_ (some 17) rfl rfl Try.func27 (by kernel_rfl) rfl #[.int .i64 16, .int .i64 24] rfl (by (try simp only [List.map_toArray, List.map_cons, List.map_nil]); first | done | rfl | (simp only [List.length_drop, List.length_take]; rfl)) ?_; (with_reducible refine (dragomanlaw04_ten.calls 16 24 t143 t144 t145 t146 _ A5.out).mono ?_); rintro e w70 ⟨rfl, hb⟩; refine ⟨_, rfl, ?_⟩; have n0_ := Aside0.mk (Kd.R_below (by (with_reducible repeat (first | apply Kd.R_alloc | apply Kd.R_drewN | apply Kd.R_drew)); exact HO135.out) hb); have n1_ := Aside0.mk (Kd.R_below (by (with_reducible repeat (first | apply Kd.R_alloc | apply Kd.R_drewN | apply Kd.R_drew)); exact HO139.out) hb); have n2_ := Aside0.mk (Kd.R_below (by (with_reducible repeat (first | apply Kd.R_alloc | apply Kd.R_drewN | apply Kd.R_drew)); exact HO142.out) hb); have n3_ := Aside0.mk (below_step (by repeat (first | (with_reducible first | exact HB.out | apply below_alloc | apply pw_below_drewN | apply below_drew1) | exact HB.out)) hb); clear HO135; clear HO139; clear HO142; clear HB; have HO135 := n0_; have HO139 := n1_; have HO142 := n2_; have HB := n3_; clear n0_ n1_ n2_ n3_; (try clear hb); (try clear hb2); (try clear hk); (try clear hi)) | ((with_reducible refine gate_callee (f := 18) rfl ?_); refine goesL_ (some 19) rfl rfl Try.func18 (by kernel_rfl) rfl #[.agg #[.int .u32 t143, .int .i64 t144, .int .i64 t145, .int .i64 t146], .agg #[.int .u32 167837696, .int .i64 16]] rfl (by (try simp only [List.map_toArray, List.map_cons, List.map_nil]); first | done | rfl | (simp only [List.length_drop, List.length_take]; rfl)) ?_; (with_reducible refine (pfx_In.calls t143 t144 t145 t146 167837696 16 true _ A6.out).mono ?_); rintro e w71 ⟨rfl, hb⟩; refine ⟨_, rfl, ?_⟩; have n0_ := Aside0.mk (Kd.R_below (by (with_reducible repeat (first | apply Kd.R_alloc | apply Kd.R_drewN | apply Kd.R_drew)); exact HO135.out) hb); have n1_ := Aside0.mk (Kd.R_below (by (with_reducible repeat (first | apply Kd.R_alloc | apply Kd.R_drewN | apply Kd.R_drew)); exact HO139.out) hb); have n2_ := Aside0.mk (Kd.R_below (by (with_reducible repeat (first | apply Kd.R_alloc | apply Kd.R_drewN | apply Kd.R_drew)); exact HO142.out) hb); have n3_ := Aside0.mk (below_step (by repeat (first | (with_reducible first | exact HB.out | apply below_alloc | apply pw_below_drewN | apply below_drew1) | exact HB.out)) hb); clear HO135; clear HO139; clear HO142; clear HB; have HO135 := n0_; have HO139 := n1_; have HO142 := n2_; have HB := n3_; clear n0_ n1_ n2_ n3_; (try clear hb); (try clear hb2); (try clear hk); (try clear hi)) | (go_at_call 27; (with_reducible refine (dragomanlaw04_ten.calls 16 24 t148 t149 t150 t151 _ A8.out).mono ?_); rintro e w72 ⟨rfl, hb⟩; have n0_ := Aside0.mk (Kd.R_below (by (with_reducible repeat (first | apply Kd.R_alloc | apply Kd.R_drewN | apply Kd.R_drew)); exact HO135.out) hb); have n1_ := Aside0.mk (Kd.R_below (by (with_reducible repeat (first | apply Kd.R_alloc | apply Kd.R_drewN | apply Kd.R_drew)); exact HO139.out) hb); have n2_ := Aside0.mk (Kd.R_below (by (with_reducible repeat (first | apply Kd.R_alloc | apply Kd.R_drewN | apply Kd.R_drew)); exact HO142.out) hb); have n3_ := Aside0.mk (below_step (by repeat (first | (with_reducible first | exact HB.out | apply below_alloc | apply pw_below_drewN | apply below_drew1) | exact HB.out)) hb); clear HO135; clear HO139; clear HO142; clear HB; have HO135 := n0_; have HO139 := n1_; have HO142 := n2_; have HB := n3_; clear n0_ n1_ n2_ n3_; (try clear hb); (try clear hb2); (try clear hk); (try clear hi)) | (go_at_call 18; (with_reducible refine (pfx_In.calls t148 t149 t150 t151 167772160 8 false _ A9.out).mono ?_); rintro e w73 ⟨rfl, hb⟩; have n0_ := Aside0.mk (Kd.R_below (by (with_reducible repeat (first | apply Kd.R_alloc | apply Kd.R_drewN | apply Kd.R_drew)); exact HO135.out) hb); have n1_ := Aside0.mk (Kd.R_below (by (with_reducible repeat (first | apply Kd.R_alloc | apply Kd.R_drewN | apply Kd.R_drew)); exact HO139.out) hb); have n2_ := Aside0.mk (Kd.R_below (by (with_reducible repeat (first | apply Kd.R_alloc | apply Kd.R_drewN | apply Kd.R_drew)); exact HO142.out) hb); have n3_ := Aside0.mk (below_step (by repeat (first | (with_reducible first | exact HB.out | apply below_alloc | apply pw_below_drewN | apply below_drew1) | exact HB.out)) hb); clear HO135; clear HO139; clear HO142; clear HB; have HO135 := n0_; have HO139 := n1_; have HO142 := n2_; have HB := n3_; clear n0_ n1_ n2_ n3_; (try clear hb); (try clear hb2); (try clear hk); (try clear hi)))
        go_ret
        exact ⟨by first | rfl | (simp [errW_none, errW_some] <;> rfl) | (simp [*, errW_none, errW_some] <;> rfl), by repeat (first | (with_reducible first | exact HB.out | apply below_alloc | apply pw_below_drewN | apply below_drew1) | exact HB.out)⟩
  · replace c7 := Bool.eq_false_iff.mpr c7
    subst c7
    have H1 : (some false) = some r := by rw [if_neg (show ¬ (false = true) by decide)] at H; exact H
    clear H
    have H := H1
    clear H1
    obtain rfl := Option.some.inj H
    go_enter Try.func10, Try.ntmps10
    go_wp2_with (first | ((with_reducible refine gate_callee (f := 27) rfl ?_); refine goesL_ (some 5) rfl rfl Try.func27 (by kernel_rfl) rfl #[.int .i64 8, .int .i64 8] rfl (by (try simp only [List.map_toArray, List.map_cons, List.map_nil]); first | done | rfl | (simp only [List.length_drop, List.length_take]; rfl)) ?_; (with_reducible refine (dragomanlaw04_ten.calls 8 8 t125 t126 t127 t128 _ A1.out).mono ?_); rintro e w74 ⟨rfl, hb⟩; refine ⟨_, rfl, ?_⟩; have n0_ := Aside0.mk (below_step (by repeat (first | (with_reducible first | exact HB.out | apply below_alloc | apply pw_below_drewN | apply below_drew1) | exact HB.out)) hb); clear HB; have HB := n0_; clear n0_; (try clear hb); (try clear hb2); (try clear hk); (try clear hi)) | ((with_reducible refine gate_callee (f := 27) rfl ?_); refine goesL_ (some 7) rfl rfl Try.func27 (by kernel_rfl) rfl #[.int .i64 8, .int .i64 9] rfl (by (try simp only [List.map_toArray, List.map_cons, List.map_nil]); first | done | rfl | (simp only [List.length_drop, List.length_take]; rfl)) ?_; (with_reducible refine (dragomanlaw04_ten.calls 8 9 t129 t130 t131 t132 _ A2.out).mono ?_); rintro e w75 ⟨rfl, hb⟩; refine ⟨_, rfl, ?_⟩; have n0_ := Aside0.mk (below_step (by repeat (first | (with_reducible first | exact HB.out | apply below_alloc | apply pw_below_drewN | apply below_drew1) | exact HB.out)) hb); clear HB; have HB := n0_; clear n0_; (try clear hb); (try clear hb2); (try clear hk); (try clear hi)) | ((with_reducible refine gate_dst (N := 9) rfl ?_); (try (refine gate_guard (by rfl) ?_; dsimp only)); refine Kd.R_lit k41 _ 41 ?hg (N := 9) ?hd (xs := ([(⟨true, (⟨(⟨t125, t126⟩ : S24), t127, t128⟩ : S26)⟩ : S41), (⟨false, (⟨(⟨t129, t130⟩ : S24), t131, t132⟩ : S26)⟩ : S41)] : List (S41))) (inner := [.bool true, .int .u32 t125, .int .i64 t126, .int .i64 t127, .int .i64 t128, .bool false, .int .u32 t129, .int .i64 t130, .int .i64 t131, .int .i64 t132]) (ok := fun _ => True) (okp := fun _ => True) ?hr ?hp (fun _ hk => hk) trivial (Below.refl _ _) (Nat.le_refl _) (by simp) ?_; (case hd => rfl); (case hg => rfl); (case hr => first | (go_simp; done) | (go_simp; rfl)); (case hp => exact (Reps.c5 (show Kd.M k41 _ _ _ (⟨true, (⟨(⟨t125, t126⟩ : S24), t127, t128⟩ : S26)⟩ : S41) [.bool true, .int .u32 t125, .int .i64 t126, .int .i64 t127, .int .i64 t128] from (k41_mkM _ _ _ (⟨true, (⟨(⟨t125, t126⟩ : S24), t127, t128⟩ : S26)⟩ : S41) )) (Reps.c5 (show Kd.M k41 _ _ _ (⟨false, (⟨(⟨t129, t130⟩ : S24), t131, t132⟩ : S26)⟩ : S41) [.bool false, .int .u32 t129, .int .i64 t130, .int .i64 t131, .int .i64 t132] from (k41_mkM _ _ _ (⟨false, (⟨(⟨t129, t130⟩ : S24), t131, t132⟩ : S26)⟩ : S41) )) (Reps.none _ _)))); intro v134 w76 ho77 hb hg_ hnew_; clear hg_ hnew_; (first | rw [← Ny133.out] at ho77 | (simp only [Int.reduceToNat] at ho77; rw [← Ny133.out] at ho77)); have n0_ := Aside0.mk (Kd.R_lower ho77 (below_size (by repeat (first | (with_reducible first | exact HB.out | apply below_alloc | apply pw_below_drewN | apply below_drew1) | exact HB.out)))); have n1_ := Aside0.mk (below_step (by repeat (first | (with_reducible first | exact HB.out | apply below_alloc | apply pw_below_drewN | apply below_drew1) | exact HB.out)) hb); clear HB; have HO135 := n0_; have HB := n1_; clear n0_ n1_; clear hb ho77; obtain ⟨Ao78, co78, eo78⟩ := Kd.R_slice HO135.out; subst eo78) | ((with_reducible refine gate_callee (f := 16) rfl ?_); refine goesL_ (some 10) rfl rfl Try.func16 (by kernel_rfl) rfl #[.slice Ao78 y133.length co78] rfl (by (try simp only [List.map_toArray, List.map_cons, List.map_nil]); first | done | rfl | (simp only [List.length_drop, List.length_take]; rfl)) ?_; (with_reducible refine (pfx_Flat.calls k _ _ y133 t136 t137 _ ?side1 ?side2 A3.out).mono ?_); (case side1 => repeat (first | exact (Kd.R_reads' HO135.out).2.2 | (with_reducible refine Kd.C_alloc ?_ _) | (with_reducible refine Kd.C_drewN ?_ _) | (with_reducible refine Kd.C_drew ?_))); (case side2 => exact (Kd.R_reads' HO135.out).2.1); rintro e w79 ⟨v138, rfl, ho0, hb⟩; refine ⟨_, rfl, ?_⟩; have n0_ := Aside0.mk (Kd.R_below (by (with_reducible repeat (first | apply Kd.R_alloc | apply Kd.R_drewN | apply Kd.R_drew)); exact HO135.out) hb); have n1_ := Aside0.mk (Kd.R_lower ho0 (below_size (by repeat (first | (with_reducible first | exact HB.out | apply below_alloc | apply pw_below_drewN | apply below_drew1) | exact HB.out)))); have n2_ := Aside0.mk (below_step (by repeat (first | (with_reducible first | exact HB.out | apply below_alloc | apply pw_below_drewN | apply below_drew1) | exact HB.out)) hb); clear HO135; clear HB; have HO135 := n0_; have HO139 := n1_; have HB := n2_; clear n0_ n1_ n2_; (try clear hb); (try clear hb2); (try clear hk); (try clear hi); (try clear ho0)) | ((with_reducible refine gate_callee (f := 14) rfl ?_); refine goesL_ (some 16) rfl rfl Try.func14 (by kernel_rfl) rfl #[.agg #[.int .u32 0, .int .i64 0, .int .i64 0, .int .i64 2], .agg #[.int .u32 2147483648, .int .i64 1, .int .i64 1, .int .i64 2]] rfl (by (try simp only [List.map_toArray, List.map_cons, List.map_nil]); first | done | rfl | (simp only [List.length_drop, List.length_take]; rfl)) ?_; (with_reducible refine (pfx_Minus.calls k 0 0 0 2 2147483648 1 1 2 t140 _ A4.out).mono ?_); rintro e w80 ⟨v141, rfl, ho0, hb⟩; refine ⟨_, rfl, ?_⟩; have n0_ := Aside0.mk (Kd.R_below (by (with_reducible repeat (first | apply Kd.R_alloc | apply Kd.R_drewN | apply Kd.R_drew)); exact HO135.out) hb); have n1_ := Aside0.mk (Kd.R_elder' (by (with_reducible repeat (first | apply Kd.R_alloc | apply Kd.R_drewN | apply Kd.R_drew)); exact HO139.out) (Kd.R_base ho0) hb); have n2_ := Aside0.mk (Kd.R_lower (Kd.R_new' ho0 (Kd.R_lt (by (with_reducible repeat (first | apply Kd.R_alloc | apply Kd.R_drewN | apply Kd.R_drew)); exact HO139.out))) (below_size (by repeat (first | (with_reducible first | exact HB.out | apply below_alloc | apply pw_below_drewN | apply below_drew1) | exact HB.out)))); have n3_ := Aside0.mk (below_step (by repeat (first | (with_reducible first | exact HB.out | apply below_alloc | apply pw_below_drewN | apply below_drew1) | exact HB.out)) hb); clear HO135; clear HO139; clear HB; have HO135 := n0_; have HO139 := n1_; have HO142 := n2_; have HB := n3_; clear n0_ n1_ n2_ n3_; (try clear hb); (try clear hb2); (try clear hk); (try clear hi); (try clear ho0)) | ((with_reducible refine gate_callee (f := 27) rfl ?_); refine goesL_ (some 17) rfl rfl Try.func27 (by kernel_rfl) rfl #[.int .i64 16, .int .i64 24] rfl (by (try simp only [List.map_toArray, List.map_cons, List.map_nil]); first | done | rfl | (simp only [List.length_drop, List.length_take]; rfl)) ?_; (with_reducible refine (dragomanlaw04_ten.calls 16 24 t143 t144 t145 t146 _ A5.out).mono ?_); rintro e w81 ⟨rfl, hb⟩; refine ⟨_, rfl, ?_⟩; have n0_ := Aside0.mk (Kd.R_below (by (with_reducible repeat (first | apply Kd.R_alloc | apply Kd.R_drewN | apply Kd.R_drew)); exact HO135.out) hb); have n1_ := Aside0.mk (Kd.R_below (by (with_reducible repeat (first | apply Kd.R_alloc | apply Kd.R_drewN | apply Kd.R_drew)); exact HO139.out) hb); have n2_ := Aside0.mk (Kd.R_below (by (with_reducible repeat (first | apply Kd.R_alloc | apply Kd.R_drewN | apply Kd.R_drew)); exact HO142.out) hb); have n3_ := Aside0.mk (below_step (by repeat (first | (with_reducible first | exact HB.out | apply below_alloc | apply pw_below_drewN | apply below_drew1) | exact HB.out)) hb); clear HO135; clear HO139; clear HO142; clear HB; have HO135 := n0_; have HO139 := n1_; have HO142 := n2_; have HB := n3_; clear n0_ n1_ n2_ n3_; (try clear hb); (try clear hb2); (try clear hk); (try clear hi)) | ((with_reducible refine gate_callee (f := 18) rfl ?_); refine goesL_ (some 19) rfl rfl Try.func18 (by kernel_rfl) rfl #[.agg #[.int .u32 t143, .int .i64 t144, .int .i64 t145, .int .i64 t146], .agg #[.int .u32 167837696, .int .i64 16]] rfl (by (try simp only [List.map_toArray, List.map_cons, List.map_nil]); first | done | rfl | (simp only [List.length_drop, List.length_take]; rfl)) ?_; (with_reducible refine (pfx_In.calls t143 t144 t145 t146 167837696 16 false _ A6.out).mono ?_); rintro e w82 ⟨rfl, hb⟩; refine ⟨_, rfl, ?_⟩; have n0_ := Aside0.mk (Kd.R_below (by (with_reducible repeat (first | apply Kd.R_alloc | apply Kd.R_drewN | apply Kd.R_drew)); exact HO135.out) hb); have n1_ := Aside0.mk (Kd.R_below (by (with_reducible repeat (first | apply Kd.R_alloc | apply Kd.R_drewN | apply Kd.R_drew)); exact HO139.out) hb); have n2_ := Aside0.mk (Kd.R_below (by (with_reducible repeat (first | apply Kd.R_alloc | apply Kd.R_drewN | apply Kd.R_drew)); exact HO142.out) hb); have n3_ := Aside0.mk (below_step (by repeat (first | (with_reducible first | exact HB.out | apply below_alloc | apply pw_below_drewN | apply below_drew1) | exact HB.out)) hb); clear HO135; clear HO139; clear HO142; clear HB; have HO135 := n0_; have HO139 := n1_; have HO142 := n2_; have HB := n3_; clear n0_ n1_ n2_ n3_; (try clear hb); (try clear hb2); (try clear hk); (try clear hi)))
    go_ret
    exact ⟨by first | rfl | (simp [errW_none, errW_some] <;> rfl) | (simp [*, errW_none, errW_some] <;> rfl), by repeat (first | (with_reducible first | exact HB.out | apply below_alloc | apply pw_below_drewN | apply below_drew1) | exact HB.out)⟩

-- GIVEN rounds=1 making=1 info=R
-- TYPES P=api.Prefix;R=api.Range;RS=[]api.Range;
-- FUNCS parts=dragoman/dragomanlaw04.PfxParts;
section
open Go.Proofs.Ytgljfjjainlhgaa.Sp
/-- How many of some ranges a prefix is in. -/
def cntF (p0 p1 : Int) : List S26 → Int → Option Int
  | [], n => some n
  | x :: r, n => (pfx_In.f x.f0.f0 x.f0.f1 x.f1 x.f2 p0 p1).bind fun t => cntF p0 p1 r (if t = true then wrap64 (n + 1) else n)
def partsV (n : Int) (ok ia ib im : Bool) : Bool := (decide (n ≤ 1) && (decide (n = 1) == (ia && !ib))) && ((ok && im) == (ia && ib))
def dragomanlaw04_PfxParts.f (k : Nat) (a0_0 a0_1 a0_2 a0_3 a1_0 a1_1 a1_2 a1_3 a2_0 a2_1 : Int) : Option Bool := (dragomanlaw04_alive.f k).bind fun al => if al = true then (pfx_Minus.f k a0_0 a0_1 a0_2 a0_3 a1_0 a1_1 a1_2 a1_3).bind fun l => (cntF a2_0 a2_1 l 0).bind fun n => (pfx_Meet.f k a0_0 a0_1 a0_2 a0_3 a1_0 a1_1 a1_2 a1_3).bind fun m => (pfx_In.f a0_0 a0_1 a0_2 a0_3 a2_0 a2_1).bind fun ia => (pfx_In.f a1_0 a1_1 a1_2 a1_3 a2_0 a2_1).bind fun ib => (pfx_In.f m.1 m.2.1 m.2.2.1 m.2.2.2.1 a2_0 a2_1).bind fun im => some (partsV n m.2.2.2.2 ia ib im) else some false
theorem dragomanlaw04_PfxParts.mono : ∀ a0 a1 a2 a3 a4 a5 a6 a7 a8 a9 k, LeO (dragomanlaw04_PfxParts.f k a0 a1 a2 a3 a4 a5 a6 a7 a8 a9) (dragomanlaw04_PfxParts.f (k + 1) a0 a1 a2 a3 a4 a5 a6 a7 a8 a9) := by
  intro a0 a1 a2 a3 a4 a5 a6 a7 a8 a9 k
  unfold dragomanlaw04_PfxParts.f
  exact LeO.bind (dragomanlaw04_alive.mono _) (fun _ => LeO.ite (LeO.bind (pfx_Minus.mono _ _ _ _ _ _ _ _ _) (fun _ => LeO.bind (LeO.refl _) (fun _ => LeO.bind (pfx_Meet.mono _ _ _ _ _ _ _ _ _) (fun _ => LeO.refl _)))) (LeO.refl _))
set_option maxHeartbeats 16000000 in
set_option maxRecDepth 100000 in
theorem dragomanlaw04_PfxParts.calls (k : Nat) (a0_0 : Int) (a0_1 : Int) (a0_2 : Int) (a0_3 : Int) (a1_0 : Int) (a1_1 : Int) (a1_2 : Int) (a1_3 : Int) (a2_0 : Int) (a2_1 : Int) (r : Bool) (w : World) (h : dragomanlaw04_PfxParts.f k a0_0 a0_1 a0_2 a0_3 a1_0 a1_1 a1_2 a1_3 a2_0 a2_1 = some r) :
    Calls Try.prog 5 #[.agg #[.int .u32 a0_0, .int .i64 a0_1, .int .i64 a0_2, .int .i64 a0_3], .agg #[.int .u32 a1_0, .int .i64 a1_1, .int .i64 a1_2, .int .i64 a1_3], .agg #[.int .u32 a2_0, .int .i64 a2_1]] w fun e w' => e = .returned (.bool r) ∧ Below w.heap.size w w' := by
  have hu26 := Try.underlying26
  have hu24 := Try.underlying24
  unfold dragomanlaw04_PfxParts.f at h
  obtain ⟨al, hAl, h⟩ := Option.bind_eq_some_iff.mp h
  have HAl := Aside0.mk hAl
  have H := Aside0.mk h
  clear hAl h
  have HS0 := (((Sep.nil w).alloc [.int .u32 a0_0, .int .i64 a0_1, .int .i64 a0_2, .int .i64 a0_3] 26).alloc [.int .u32 a1_0, .int .i64 a1_1, .int .i64 a1_2, .int .i64 a1_3] 26).alloc [.int .u32 a2_0, .int .i64 a2_1] 24
  simp only [World.size_alloc] at HS0
  go_enter Try.func5, Try.ntmps5
  go_wp2_with (fail)
  refine (dragomanlaw04_alive.calls k al _ HAl.out).mono ?_
  rintro e w1 ⟨rfl, hb⟩
  have HS1 := HS0.keep hb
  clear HS0 hb
  have fp0 := HS1.cell (L := []) 0 _ rfl
  have fp1 := HS1.cell (L := []) 1 _ rfl
  have fb0 := HS1.cell (L := [_]) 0 _ rfl
  have fb1 := HS1.cell (L := [_]) 1 _ rfl
  have fb2 := HS1.cell (L := [_]) 2 _ rfl
  have fb3 := HS1.cell (L := [_]) 3 _ rfl
  have fa0 := HS1.cell (L := [_, _]) 0 _ rfl
  have fa1 := HS1.cell (L := [_, _]) 1 _ rfl
  have fa2 := HS1.cell (L := [_, _]) 2 _ rfl
  have fa3 := HS1.cell (L := [_, _]) 3 _ rfl
  have h := H.out
  clear H
  cases al with
  | false =>
    obtain rfl : false = r := by simpa using h
    clear h
    go_wp2
    go_ret
    exact ⟨rfl, HS1.below⟩
  | true =>
    rw [if_pos rfl] at h
    obtain ⟨l, hL, h⟩ := Option.bind_eq_some_iff.mp h
    obtain ⟨N, hN, h⟩ := Option.bind_eq_some_iff.mp h
    obtain ⟨⟨m0, m1, m2, m3, ok⟩, hM, h⟩ := Option.bind_eq_some_iff.mp h
    obtain ⟨ia, hIa, h⟩ := Option.bind_eq_some_iff.mp h
    obtain ⟨ib, hIb, h⟩ := Option.bind_eq_some_iff.mp h
    obtain ⟨im, hIm, h⟩ := Option.bind_eq_some_iff.mp h
    have HL := Aside0.mk hL
    have HN := Aside0.mk hN
    have HM := Aside0.mk hM
    have HIa := Aside0.mk hIa
    have HIb := Aside0.mk hIb
    have HIm := Aside0.mk hIm
    have HV : Aside0 (partsV N ok ia ib im = r) := ⟨Option.some.inj h⟩
    clear hL hN hM hIa hIb hIm h
    go_wp2_with (fail)
    refine (pfx_Minus.calls k _ _ _ _ _ _ _ _ l _ HL.out).mono ?_
    rintro e w2 ⟨v2, rfl, hR2, hb⟩
    obtain ⟨A2, c2, rfl, hc2, hC2⟩ := Kd.R_reads hR2
    have HC2 := Aside0.mk hC2
    have HS2 := HS1.keep hb
    have hlen : (l.length : Int) ≤ 9223372036854775807 := by have := hC2.2.1; omega
    clear HS1 hb hR2 hC2 HL fp0 fp1 fb0 fb1 fb2 fb3 fa0 fa1 fa2 fa3
    have fp0 := HS2.cell (L := []) 0 _ rfl
    have fp1 := HS2.cell (L := []) 1 _ rfl
    have fb0 := HS2.cell (L := [_]) 0 _ rfl
    have fb1 := HS2.cell (L := [_]) 1 _ rfl
    have fb2 := HS2.cell (L := [_]) 2 _ rfl
    have fb3 := HS2.cell (L := [_]) 3 _ rfl
    have fa0 := HS2.cell (L := [_, _]) 0 _ rfl
    have fa1 := HS2.cell (L := [_, _]) 1 _ rfl
    have fa2 := HS2.cell (L := [_, _]) 2 _ rfl
    have fa3 := HS2.cell (L := [_, _]) 3 _ rfl
    go_wp2
    go_loopg [7, 19] l.length (fun kq v7 v19 w' => ∃ (i : Nat) (n : Int), v7 = .int .i64 n ∧ v19 = .int .i64 i ∧ Aside0 (i + kq = l.length) ∧ Aside0 (cntF a2_0 a2_1 (l.drop i) n = some N) ∧ Aside0 (Sep w2 w' []) ∧ Sep w w' [.var (w.heap.size + 1 + 1) 24 [.int .u32 a2_0, .int .i64 a2_1], .var (w.heap.size + 1) 26 [.int .u32 a1_0, .int .i64 a1_1, .int .i64 a1_2, .int .i64 a1_3], .var w.heap.size 26 [.int .u32 a0_0, .int .i64 a0_1, .int .i64 a0_2, .int .i64 a0_3]])
    case atStart => exact ⟨0, 0, rfl, rfl, ⟨by omega⟩, HN, ⟨Sep.nil w2⟩, HS2⟩
    case round =>
      clear HS2 HN fp0 fp1 fb0 fb1 fb2 fb3 fa0 fa1 fa2 fa3
      obtain ⟨i, n, rfl, rfl, HI, HN, HW, HS⟩ := hrel
      have fp0 := HS.cell (L := []) 0 _ rfl
      have fp1 := HS.cell (L := []) 1 _ rfl
      have fb0 := HS.cell (L := [_]) 0 _ rfl
      have fb1 := HS.cell (L := [_]) 1 _ rfl
      have fb2 := HS.cell (L := [_]) 2 _ rfl
      have fb3 := HS.cell (L := [_]) 3 _ rfl
      have fa0 := HS.cell (L := [_, _]) 0 _ rfl
      have fa1 := HS.cell (L := [_, _]) 1 _ rfl
      have fa2 := HS.cell (L := [_, _]) 2 _ rfl
      have fa3 := HS.cell (L := [_, _]) 3 _ rfl
      by_cases hi : i < l.length
      · obtain ⟨ad, e1, g0, g1, g2, g3⟩ := at_T26 HC2.out (i : Int) (by omega) (by omega)
        cases e1
        have hx0 := ((Sep.below HW.out).cell (World.block_lt_of_cell? w2 _ g0)).trans g0
        have hx1 := ((Sep.below HW.out).cell (World.block_lt_of_cell? w2 _ g1)).trans g1
        have hx2 := ((Sep.below HW.out).cell (World.block_lt_of_cell? w2 _ g2)).trans g2
        have hx3 := ((Sep.below HW.out).cell (World.block_lt_of_cell? w2 _ g3)).trans g3
        clear g0 g1 g2 g3
        have hrd : rd_T26 l (i : Int) = l[i] := by unfold rd_T26; simp [hi]
        rw [hrd] at hx0 hx1 hx2 hx3
        simp only [Int.toNat_natCast] at hx0 hx1 hx2 hx3
        have hm := HN.out
        rw [List.drop_eq_getElem_cons hi] at hm
        generalize l[i] = x at hx0 hx1 hx2 hx3 hm
        unfold cntF at hm
        obtain ⟨t, hT, hm⟩ := Option.bind_eq_some_iff.mp hm
        have HT := Aside0.mk hT
        have HN2 := Aside0.mk hm
        clear hT hm hrd HN
        have HSx := HS.alloc [.int .u32 x.f0.f0, .int .i64 x.f0.f1, .int .i64 x.f1, .int .i64 x.f2] 26
        have fp0' := HSx.cell (L := [_]) 0 _ rfl
        have fp1' := HSx.cell (L := [_]) 1 _ rfl
        clear fp0 fp1 fb0 fb1 fb2 fb3 fa0 fa1 fa2 fa3
        go_wp2_with (fail)
        refine (pfx_In.calls _ _ _ _ _ _ t _ HT.out).mono ?_
        rintro e w3 ⟨rfl, hb⟩
        have HS3 := HSx.tail.keep hb
        have HW3 := Aside0.mk ((HW.out.alloc [.int .u32 x.f0.f0, .int .i64 x.f0.f1, .int .i64 x.f1, .int .i64 x.f2] 26).tail.keep hb)
        clear HS HSx HW hb hx0 hx1 hx2 hx3 fp0' fp1'
        cases t with
        | false =>
          have HN3 : Aside0 (cntF a2_0 a2_1 (l.drop (i + 1)) n = some N) := ⟨by have := HN2.out; simpa using this⟩
          go_wp2
          go_roundg (l.length - (i + 1))
          case measure => have := HI.out; omega
          case rel => exact ⟨i + 1, _, rfl, by go_num, ⟨by have := HI.out; omega⟩, HN3, HW3, HS3⟩
        | true =>
          have HN3 : Aside0 (cntF a2_0 a2_1 (l.drop (i + 1)) (wrap64 (n + 1)) = some N) := ⟨by have := HN2.out; simpa using this⟩
          go_wp2
          go_roundg (l.length - (i + 1))
          case measure => have := HI.out; omega
          case rel => exact ⟨i + 1, _, rfl, by go_num, ⟨by have := HI.out; omega⟩, HN3, HW3, HS3⟩
      · obtain rfl : i = l.length := by have := HI.out; omega
        obtain rfl : n = N := by
          have h := HN.out
          rw [List.drop_eq_nil_of_le (Nat.le_refl _)] at h
          exact Option.some.inj h
        have hnlt : ¬ ((l.length : Int) < l.length) := Int.lt_irrefl _
        clear HN HI HC2 HW
        go_wp2_with (fail)
        refine (pfx_Meet.calls k _ _ _ _ _ _ _ _ m0 m1 m2 m3 ok _ HM.out).mono ?_
        rintro e w4 ⟨rfl, hb⟩
        have HS4 := (HS.keep hb).alloc [.int .u32 m0, .int .i64 m1, .int .i64 m2, .int .i64 m3] 26
        clear HS hb HM fp0 fp1 fb0 fb1 fb2 fb3 fa0 fa1 fa2 fa3
        go_upto_region 11 with (fail)
        generalize w4.heap.size = g10 at HS4 ⊢
        generalize w4.alloc _ = w5 at HS4 ⊢
        have fm0 := HS4.cell (L := []) 0 _ rfl
        have fm1 := HS4.cell (L := []) 1 _ rfl
        have fm2 := HS4.cell (L := []) 2 _ rfl
        have fm3 := HS4.cell (L := []) 3 _ rfl
        have fp0 := HS4.cell (L := [_]) 0 _ rfl
        have fp1 := HS4.cell (L := [_]) 1 _ rfl
        have fb0 := HS4.cell (L := [_, _]) 0 _ rfl
        have fb1 := HS4.cell (L := [_, _]) 1 _ rfl
        have fb2 := HS4.cell (L := [_, _]) 2 _ rfl
        have fb3 := HS4.cell (L := [_, _]) 3 _ rfl
        have fa0 := HS4.cell (L := [_, _, _]) 0 _ rfl
        have fa1 := HS4.cell (L := [_, _, _]) 1 _ rfl
        have fa2 := HS4.cell (L := [_, _, _]) 2 _ rfl
        have fa3 := HS4.cell (L := [_, _, _]) 3 _ rfl
        go_wp2_with (fail)
        refine (pfx_In.calls _ _ _ _ _ _ ia _ HIa.out).mono ?_
        rintro e w21 ⟨rfl, hb⟩
        have HS21 := HS4.keep hb
        clear hb fm0 fm1 fm2 fm3 fp0 fp1 fb0 fb1 fb2 fb3 fa0 fa1 fa2 fa3
        have fm0 := HS21.cell (L := []) 0 _ rfl
        have fm1 := HS21.cell (L := []) 1 _ rfl
        have fm2 := HS21.cell (L := []) 2 _ rfl
        have fm3 := HS21.cell (L := []) 3 _ rfl
        have fp0 := HS21.cell (L := [_]) 0 _ rfl
        have fp1 := HS21.cell (L := [_]) 1 _ rfl
        have fb0 := HS21.cell (L := [_, _]) 0 _ rfl
        have fb1 := HS21.cell (L := [_, _]) 1 _ rfl
        have fb2 := HS21.cell (L := [_, _]) 2 _ rfl
        have fb3 := HS21.cell (L := [_, _]) 3 _ rfl
        have fa0 := HS21.cell (L := [_, _, _]) 0 _ rfl
        have fa1 := HS21.cell (L := [_, _, _]) 1 _ rfl
        have fa2 := HS21.cell (L := [_, _, _]) 2 _ rfl
        have fa3 := HS21.cell (L := [_, _, _]) 3 _ rfl
        cases ia with
        | false =>
          by_cases hn1 : n ≤ 1
          · have hn1b : decide (n ≤ 1) = true := decide_eq_true hn1
            go_wp2_with (fail)
            refine (pfx_In.calls _ _ _ _ _ _ false _ HIa.out).mono ?_
            rintro e w22 ⟨rfl, hb⟩
            have HS22 := HS21.keep hb
            clear hb fm0 fm1 fm2 fm3 fp0 fp1 fb0 fb1 fb2 fb3 fa0 fa1 fa2 fa3
            have fm0 := HS22.cell (L := []) 0 _ rfl
            have fm1 := HS22.cell (L := []) 1 _ rfl
            have fm2 := HS22.cell (L := []) 2 _ rfl
            have fm3 := HS22.cell (L := []) 3 _ rfl
            have fp0 := HS22.cell (L := [_]) 0 _ rfl
            have fp1 := HS22.cell (L := [_]) 1 _ rfl
            have fb0 := HS22.cell (L := [_, _]) 0 _ rfl
            have fb1 := HS22.cell (L := [_, _]) 1 _ rfl
            have fb2 := HS22.cell (L := [_, _]) 2 _ rfl
            have fb3 := HS22.cell (L := [_, _]) 3 _ rfl
            have fa0 := HS22.cell (L := [_, _, _]) 0 _ rfl
            have fa1 := HS22.cell (L := [_, _, _]) 1 _ rfl
            have fa2 := HS22.cell (L := [_, _, _]) 2 _ rfl
            have fa3 := HS22.cell (L := [_, _, _]) 3 _ rfl
            by_cases hn2 : n = 1
            · have hn2b : (n == 1) = true := by simpa using hn2
              go_wp2
              go_ret
              refine ⟨?_, HS22.below⟩
              rw [← HV.out]
              simp [partsV, *]
            · have hn2b : (n == 1) = false := by simpa using hn2
              cases ok with
              | false =>
                go_wp2
                go_ret
                refine ⟨?_, HS22.below⟩
                rw [← HV.out]
                simp [partsV, *]
              | true =>
                go_wp2_with (fail)
                refine (pfx_In.calls _ _ _ _ _ _ im _ HIm.out).mono ?_
                rintro e w23 ⟨rfl, hb⟩
                have HS23 := HS22.keep hb
                clear hb fm0 fm1 fm2 fm3 fp0 fp1 fb0 fb1 fb2 fb3 fa0 fa1 fa2 fa3
                have fm0 := HS23.cell (L := []) 0 _ rfl
                have fm1 := HS23.cell (L := []) 1 _ rfl
                have fm2 := HS23.cell (L := []) 2 _ rfl
                have fm3 := HS23.cell (L := []) 3 _ rfl
                have fp0 := HS23.cell (L := [_]) 0 _ rfl
                have fp1 := HS23.cell (L := [_]) 1 _ rfl
                have fb0 := HS23.cell (L := [_, _]) 0 _ rfl
                have fb1 := HS23.cell (L := [_, _]) 1 _ rfl
                have fb2 := HS23.cell (L := [_, _]) 2 _ rfl
                have fb3 := HS23.cell (L := [_, _]) 3 _ rfl
                have fa0 := HS23.cell (L := [_, _, _]) 0 _ rfl
                have fa1 := HS23.cell (L := [_, _, _]) 1 _ rfl
                have fa2 := HS23.cell (L := [_, _, _]) 2 _ rfl
                have fa3 := HS23.cell (L := [_, _, _]) 3 _ rfl
                go_wp2
                go_ret
                refine ⟨?_, HS23.below⟩
                rw [← HV.out]
                simp [partsV, *]
          · have hn1b : decide (n ≤ 1) = false := decide_eq_false hn1
            go_wp2
            go_ret
            refine ⟨?_, HS21.below⟩
            rw [← HV.out]
            simp [partsV, *]
        | true =>
          go_wp2_with (fail)
          refine (pfx_In.calls _ _ _ _ _ _ ib _ HIb.out).mono ?_
          rintro e w24 ⟨rfl, hb⟩
          have HS24 := HS21.keep hb
          clear hb fm0 fm1 fm2 fm3 fp0 fp1 fb0 fb1 fb2 fb3 fa0 fa1 fa2 fa3
          have fm0 := HS24.cell (L := []) 0 _ rfl
          have fm1 := HS24.cell (L := []) 1 _ rfl
          have fm2 := HS24.cell (L := []) 2 _ rfl
          have fm3 := HS24.cell (L := []) 3 _ rfl
          have fp0 := HS24.cell (L := [_]) 0 _ rfl
          have fp1 := HS24.cell (L := [_]) 1 _ rfl
          have fb0 := HS24.cell (L := [_, _]) 0 _ rfl
          have fb1 := HS24.cell (L := [_, _]) 1 _ rfl
          have fb2 := HS24.cell (L := [_, _]) 2 _ rfl
          have fb3 := HS24.cell (L := [_, _]) 3 _ rfl
          have fa0 := HS24.cell (L := [_, _, _]) 0 _ rfl
          have fa1 := HS24.cell (L := [_, _, _]) 1 _ rfl
          have fa2 := HS24.cell (L := [_, _, _]) 2 _ rfl
          have fa3 := HS24.cell (L := [_, _, _]) 3 _ rfl
          cases ib with
          | false =>
            by_cases hn1 : n ≤ 1
            · have hn1b : decide (n ≤ 1) = true := decide_eq_true hn1
              go_wp2_with (fail)
              refine (pfx_In.calls _ _ _ _ _ _ true _ HIa.out).mono ?_
              rintro e w25 ⟨rfl, hb⟩
              have HS25 := HS24.keep hb
              clear hb fm0 fm1 fm2 fm3 fp0 fp1 fb0 fb1 fb2 fb3 fa0 fa1 fa2 fa3
              have fm0 := HS25.cell (L := []) 0 _ rfl
              have fm1 := HS25.cell (L := []) 1 _ rfl
              have fm2 := HS25.cell (L := []) 2 _ rfl
              have fm3 := HS25.cell (L := []) 3 _ rfl
              have fp0 := HS25.cell (L := [_]) 0 _ rfl
              have fp1 := HS25.cell (L := [_]) 1 _ rfl
              have fb0 := HS25.cell (L := [_, _]) 0 _ rfl
              have fb1 := HS25.cell (L := [_, _]) 1 _ rfl
              have fb2 := HS25.cell (L := [_, _]) 2 _ rfl
              have fb3 := HS25.cell (L := [_, _]) 3 _ rfl
              have fa0 := HS25.cell (L := [_, _, _]) 0 _ rfl
              have fa1 := HS25.cell (L := [_, _, _]) 1 _ rfl
              have fa2 := HS25.cell (L := [_, _, _]) 2 _ rfl
              have fa3 := HS25.cell (L := [_, _, _]) 3 _ rfl
              go_wp2_with (fail)
              refine (pfx_In.calls _ _ _ _ _ _ false _ HIb.out).mono ?_
              rintro e w26 ⟨rfl, hb⟩
              have HS26 := HS25.keep hb
              clear hb fm0 fm1 fm2 fm3 fp0 fp1 fb0 fb1 fb2 fb3 fa0 fa1 fa2 fa3
              have fm0 := HS26.cell (L := []) 0 _ rfl
              have fm1 := HS26.cell (L := []) 1 _ rfl
              have fm2 := HS26.cell (L := []) 2 _ rfl
              have fm3 := HS26.cell (L := []) 3 _ rfl
              have fp0 := HS26.cell (L := [_]) 0 _ rfl
              have fp1 := HS26.cell (L := [_]) 1 _ rfl
              have fb0 := HS26.cell (L := [_, _]) 0 _ rfl
              have fb1 := HS26.cell (L := [_, _]) 1 _ rfl
              have fb2 := HS26.cell (L := [_, _]) 2 _ rfl
              have fb3 := HS26.cell (L := [_, _]) 3 _ rfl
              have fa0 := HS26.cell (L := [_, _, _]) 0 _ rfl
              have fa1 := HS26.cell (L := [_, _, _]) 1 _ rfl
              have fa2 := HS26.cell (L := [_, _, _]) 2 _ rfl
              have fa3 := HS26.cell (L := [_, _, _]) 3 _ rfl
              by_cases hn2 : n = 1
              · have hn2b : (n == 1) = true := by simpa using hn2
                cases ok with
                | false =>
                  go_wp2
                  go_ret
                  refine ⟨?_, HS26.below⟩
                  rw [← HV.out]
                  simp [partsV, *]
                | true =>
                  go_wp2_with (fail)
                  refine (pfx_In.calls _ _ _ _ _ _ im _ HIm.out).mono ?_
                  rintro e w27 ⟨rfl, hb⟩
                  have HS27 := HS26.keep hb
                  clear hb fm0 fm1 fm2 fm3 fp0 fp1 fb0 fb1 fb2 fb3 fa0 fa1 fa2 fa3
                  have fm0 := HS27.cell (L := []) 0 _ rfl
                  have fm1 := HS27.cell (L := []) 1 _ rfl
                  have fm2 := HS27.cell (L := []) 2 _ rfl
                  have fm3 := HS27.cell (L := []) 3 _ rfl
                  have fp0 := HS27.cell (L := [_]) 0 _ rfl
                  have fp1 := HS27.cell (L := [_]) 1 _ rfl
                  have fb0 := HS27.cell (L := [_, _]) 0 _ rfl
                  have fb1 := HS27.cell (L := [_, _]) 1 _ rfl
                  have fb2 := HS27.cell (L := [_, _]) 2 _ rfl
                  have fb3 := HS27.cell (L := [_, _]) 3 _ rfl
                  have fa0 := HS27.cell (L := [_, _, _]) 0 _ rfl
                  have fa1 := HS27.cell (L := [_, _, _]) 1 _ rfl
                  have fa2 := HS27.cell (L := [_, _, _]) 2 _ rfl
                  have fa3 := HS27.cell (L := [_, _, _]) 3 _ rfl
                  go_wp2
                  go_ret
                  refine ⟨?_, HS27.below⟩
                  rw [← HV.out]
                  simp [partsV, *]
              · have hn2b : (n == 1) = false := by simpa using hn2
                go_wp2
                go_ret
                refine ⟨?_, HS26.below⟩
                rw [← HV.out]
                simp [partsV, *]
            · have hn1b : decide (n ≤ 1) = false := decide_eq_false hn1
              go_wp2
              go_ret
              refine ⟨?_, HS24.below⟩
              rw [← HV.out]
              simp [partsV, *]
          | true =>
            by_cases hn1 : n ≤ 1
            · have hn1b : decide (n ≤ 1) = true := decide_eq_true hn1
              go_wp2_with (fail)
              refine (pfx_In.calls _ _ _ _ _ _ true _ HIa.out).mono ?_
              rintro e w28 ⟨rfl, hb⟩
              have HS28 := HS24.keep hb
              clear hb fm0 fm1 fm2 fm3 fp0 fp1 fb0 fb1 fb2 fb3 fa0 fa1 fa2 fa3
              have fm0 := HS28.cell (L := []) 0 _ rfl
              have fm1 := HS28.cell (L := []) 1 _ rfl
              have fm2 := HS28.cell (L := []) 2 _ rfl
              have fm3 := HS28.cell (L := []) 3 _ rfl
              have fp0 := HS28.cell (L := [_]) 0 _ rfl
              have fp1 := HS28.cell (L := [_]) 1 _ rfl
              have fb0 := HS28.cell (L := [_, _]) 0 _ rfl
              have fb1 := HS28.cell (L := [_, _]) 1 _ rfl
              have fb2 := HS28.cell (L := [_, _]) 2 _ rfl
              have fb3 := HS28.cell (L := [_, _]) 3 _ rfl
              have fa0 := HS28.cell (L := [_, _, _]) 0 _ rfl
              have fa1 := HS28.cell (L := [_, _, _]) 1 _ rfl
              have fa2 := HS28.cell (L := [_, _, _]) 2 _ rfl
              have fa3 := HS28.cell (L := [_, _, _]) 3 _ rfl
              go_wp2_with (fail)
              refine (pfx_In.calls _ _ _ _ _ _ true _ HIb.out).mono ?_
              rintro e w29 ⟨rfl, hb⟩
              have HS29 := HS28.keep hb
              clear hb fm0 fm1 fm2 fm3 fp0 fp1 fb0 fb1 fb2 fb3 fa0 fa1 fa2 fa3
              have fm0 := HS29.cell (L := []) 0 _ rfl
              have fm1 := HS29.cell (L := []) 1 _ rfl
              have fm2 := HS29.cell (L := []) 2 _ rfl
              have fm3 := HS29.cell (L := []) 3 _ rfl
              have fp0 := HS29.cell (L := [_]) 0 _ rfl
              have fp1 := HS29.cell (L := [_]) 1 _ rfl
              have fb0 := HS29.cell (L := [_, _]) 0 _ rfl
              have fb1 := HS29.cell (L := [_, _]) 1 _ rfl
              have fb2 := HS29.cell (L := [_, _]) 2 _ rfl
              have fb3 := HS29.cell (L := [_, _]) 3 _ rfl
              have fa0 := HS29.cell (L := [_, _, _]) 0 _ rfl
              have fa1 := HS29.cell (L := [_, _, _]) 1 _ rfl
              have fa2 := HS29.cell (L := [_, _, _]) 2 _ rfl
              have fa3 := HS29.cell (L := [_, _, _]) 3 _ rfl
              by_cases hn2 : n = 1
              · have hn2b : (n == 1) = true := by simpa using hn2
                go_wp2
                go_ret
                refine ⟨?_, HS29.below⟩
                rw [← HV.out]
                simp [partsV, *]
              · have hn2b : (n == 1) = false := by simpa using hn2
                cases ok with
                | false =>
                  go_wp2
                  go_ret
                  refine ⟨?_, HS29.below⟩
                  rw [← HV.out]
                  simp [partsV, *]
                | true =>
                  go_wp2_with (fail)
                  refine (pfx_In.calls _ _ _ _ _ _ im _ HIm.out).mono ?_
                  rintro e w30 ⟨rfl, hb⟩
                  have HS30 := HS29.keep hb
                  clear hb fm0 fm1 fm2 fm3 fp0 fp1 fb0 fb1 fb2 fb3 fa0 fa1 fa2 fa3
                  have fm0 := HS30.cell (L := []) 0 _ rfl
                  have fm1 := HS30.cell (L := []) 1 _ rfl
                  have fm2 := HS30.cell (L := []) 2 _ rfl
                  have fm3 := HS30.cell (L := []) 3 _ rfl
                  have fp0 := HS30.cell (L := [_]) 0 _ rfl
                  have fp1 := HS30.cell (L := [_]) 1 _ rfl
                  have fb0 := HS30.cell (L := [_, _]) 0 _ rfl
                  have fb1 := HS30.cell (L := [_, _]) 1 _ rfl
                  have fb2 := HS30.cell (L := [_, _]) 2 _ rfl
                  have fb3 := HS30.cell (L := [_, _]) 3 _ rfl
                  have fa0 := HS30.cell (L := [_, _, _]) 0 _ rfl
                  have fa1 := HS30.cell (L := [_, _, _]) 1 _ rfl
                  have fa2 := HS30.cell (L := [_, _, _]) 2 _ rfl
                  have fa3 := HS30.cell (L := [_, _, _]) 3 _ rfl
                  go_wp2
                  go_ret
                  refine ⟨?_, HS30.below⟩
                  rw [← HV.out]
                  simp [partsV, *]
            · have hn1b : decide (n ≤ 1) = false := decide_eq_false hn1
              go_wp2
              go_ret
              refine ⟨?_, HS24.below⟩
              rw [← HV.out]
              simp [partsV, *]
end


end Go.Proofs.Ytgljfjjainlhgaa.PPfxParts
