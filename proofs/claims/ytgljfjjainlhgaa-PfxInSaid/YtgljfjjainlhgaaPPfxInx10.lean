/- Written for this claim by a program of this session, after the kit's print. Not trusted: Lean checks it. -/
import Derived.Test.YtgljfjjainlhgaaPPfxInx0
import Derived.Test.YtgljfjjainlhgaaPPfxInx7
import Derived.Test.YtgljfjjainlhgaaPPfxInx9
namespace Go.Proofs.Ytgljfjjainlhgaa.PPfxIn
open Go.RowKit Go.Proofs.YtgljfjjainlhgaaW.PrintWords Go.Proofs.YtgljfjjainlhgaaW.PrintLast Go.Proofs.YtgljfjjainlhgaaW.PrintMore
attribute [local go_sem] max2_int min2_int max_two min_two max_three min_three max_four min_four   -- for this text's walks alone
set_option linter.unusedVariables false
set_option linter.unusedSimpArgs false

-- NOT PRINTED: function 33 (api_PfxEntry_33)

-- GIVEN rounds=0 making=1 info=E
-- TYPES P=api.Prefix;R=api.Range;E=api.PfxEntry;ES=[]api.PfxEntry;
-- FUNCS match=dragoman/pfx.Match;clo=dragoman/pfx.Match$1;idx=slices.IndexFunc[[]dragoman/api.PfxEntry,dragoman/api.PfxEntry];
section
open Go.Proofs.Ytgljfjjainlhgaa.Sp
theorem run_mf2 (fn : Fn) (first cap : Array Value) (w : World) : (Instr.makeFunc fn first cap).run Try.prog w = .ok (.func fn first cap) w := rfl
set_option maxHeartbeats 8000000 in
set_option maxRecDepth 100000 in
theorem pfx_Match_clo (x : S41) (p0 p1 : Int) (g : Nat) (t : Bool) (w : World) (h0 : w.cell? ⟨g, 0, none⟩ = some (.int .u32 p0)) (h1 : w.cell? ⟨g, 1, none⟩ = some (.int .i64 p1)) (h : pfx_In.f x.f1.f0.f0 x.f1.f0.f1 x.f1.f1 x.f1.f2 p0 p1 = some t) :
    Calls Try.prog 34 #[.agg #[.bool x.f0, .int .u32 x.f1.f0.f0, .int .i64 x.f1.f0.f1, .int .i64 x.f1.f1, .int .i64 x.f1.f2], .pointer (some ⟨g, 0, none⟩)] w fun e w' => e = .returned (.bool t) ∧ Below w.heap.size w w' := by
  have hu26 := Try.underlying26
  have hu24 := Try.underlying24
  have hu41 := Try.underlying41
  have H := Aside0.mk h
  clear h
  have HS := (Sep.nil w).alloc [.bool x.f0, .int .u32 x.f1.f0.f0, .int .i64 x.f1.f0.f1, .int .i64 x.f1.f1, .int .i64 x.f1.f2] 41
  have hc0 := ((Sep.below HS).cell (World.block_lt_of_cell? w _ h0)).trans h0
  have hc1 := ((Sep.below HS).cell (World.block_lt_of_cell? w _ h1)).trans h1
  have hx1 := HS.cell (L := []) 1 _ rfl
  have hx2 := HS.cell (L := []) 2 _ rfl
  have hx3 := HS.cell (L := []) 3 _ rfl
  have hx4 := HS.cell (L := []) 4 _ rfl
  go_enter Try.func34, Try.ntmps34
  go_wp2_with (fail)
  refine (pfx_In.calls _ _ _ _ _ _ t _ H.out).mono ?_
  rintro e w1 ⟨rfl, hb⟩
  have HS1 := HS.keep hb
  clear hc0 hc1 hx1 hx2 hx3 hx4
  go_wp2
  go_ret
  exact ⟨rfl, HS1.below⟩
def idxF (p0 p1 : Int) : List S41 → Int → Option Int
  | [], _ => some (-1)
  | x :: r, i => (pfx_In.f x.f1.f0.f0 x.f1.f0.f1 x.f1.f1 x.f1.f2 p0 p1).bind fun t => if t = true then some i else idxF p0 p1 r (i + 1)
theorem idxF_bd (p0 p1 : Int) : ∀ (l : List S41) (i r : Int), idxF p0 p1 l i = some r → r = -1 ∨ i ≤ r ∧ r < i + l.length
  | [], i, r, h => .inl (Option.some.inj h).symm
  | x :: l, i, r, h => by
    unfold idxF at h
    obtain ⟨t, _, h⟩ := Option.bind_eq_some_iff.mp h
    by_cases ht : t = true
    · rw [if_pos ht] at h
      have := Option.some.inj h
      simp only [List.length_cons]
      omega
    · rw [if_neg ht] at h
      have := idxF_bd p0 p1 l (i + 1) r h
      simp only [List.length_cons]
      omega
set_option maxHeartbeats 8000000 in
set_option maxRecDepth 100000 in
theorem pfx_Match_idx (A0 : Option Addr) (c0 : Nat) (l0 : List (S41)) (p0 p1 : Int) (g : Nat) (r : Int) (w : World) (hr0 : Kd.C k41 w A0 l0.length l0) (hc0 : l0.length ≤ c0) (h0 : w.cell? ⟨g, 0, none⟩ = some (.int .u32 p0)) (h1 : w.cell? ⟨g, 1, none⟩ = some (.int .i64 p1)) (h : idxF p0 p1 l0 0 = some r) :
    Calls Try.prog 33 #[.slice A0 l0.length c0, .func (.func 34) #[] #[.pointer (some ⟨g, 0, none⟩)]] w fun e w' => e = .returned (.int .i64 r) ∧ Below w.heap.size w w' := by
  have hu41 := Try.underlying41
  have HR0 := Aside0.mk hr0
  have H0 := Aside0.mk h0
  have H1 := Aside0.mk h1
  have H := Aside0.mk h
  have hlen : (l0.length : Int) ≤ 9223372036854775807 := by have := hr0.2.1; omega
  clear hr0 h0 h1 h
  go_enter Try.func33, Try.ntmps33
  go_wp2
  go_loopg [4, 8] l0.length (fun kq v4 v8 w' => ∃ (i : Nat), v4 = .int .i64 0 ∧ v8 = .int .i64 i ∧ Aside0 (i + kq = l0.length) ∧ Aside0 (idxF p0 p1 (l0.drop i) i = some r) ∧ Sep w w' [])
  case atStart => exact ⟨0, rfl, rfl, ⟨by omega⟩, H, Sep.nil w⟩
  case round =>
    clear H
    obtain ⟨i, rfl, rfl, HI, HM, HS⟩ := hrel
    by_cases hi : i < l0.length
    · obtain ⟨ad, e1, g0, g1, g2, g3, g4⟩ := at_T41 HR0.out (i : Int) (by omega) (by omega)
      cases e1
      have hx0 := (HS.below.cell (World.block_lt_of_cell? w _ g0)).trans g0
      have hx1 := (HS.below.cell (World.block_lt_of_cell? w _ g1)).trans g1
      have hx2 := (HS.below.cell (World.block_lt_of_cell? w _ g2)).trans g2
      have hx3 := (HS.below.cell (World.block_lt_of_cell? w _ g3)).trans g3
      have hx4 := (HS.below.cell (World.block_lt_of_cell? w _ g4)).trans g4
      clear g0 g1 g2 g3 g4
      have hrd : rd_T41 l0 (i : Int) = l0[i] := by unfold rd_T41; simp [hi]
      rw [hrd] at hx0 hx1 hx2 hx3 hx4
      simp only [Int.toNat_natCast] at hx0 hx1 hx2 hx3 hx4
      have hm := HM.out
      rw [List.drop_eq_getElem_cons hi] at hm
      generalize l0[i] = x at hx0 hx1 hx2 hx3 hx4 hm
      unfold idxF at hm
      obtain ⟨t, hT, hm⟩ := Option.bind_eq_some_iff.mp hm
      have HT := Aside0.mk hT
      have HM2 := Aside0.mk hm
      clear hT hm hrd HM
      go_wp2_with (fail)
      refine (pfx_Match_clo x p0 p1 g t _ ((HS.below.cell (World.block_lt_of_cell? w _ H0.out)).trans H0.out) ((HS.below.cell (World.block_lt_of_cell? w _ H1.out)).trans H1.out) HT.out).mono ?_
      rintro e w1 ⟨rfl, hb⟩
      have HS1 := HS.keep hb
      clear HS hb hx0 hx1 hx2 hx3 hx4
      cases t with
      | true =>
        obtain rfl : (i : Int) = r := by simpa using HM2.out
        clear HM2
        go_wp2
        go_ret
        exact ⟨rfl, HS1.below⟩
      | false =>
        have HM3 : Aside0 (idxF p0 p1 (l0.drop (i + 1)) ((i + 1 : Nat) : Int) = some r) := ⟨by have := HM2.out; simpa using this⟩
        go_wp2
        go_roundg (l0.length - (i + 1))
        case measure => have := HI.out; omega
        case rel => exact ⟨i + 1, rfl, by go_num, ⟨by have := HI.out; omega⟩, HM3, HS1⟩
    · obtain rfl : i = l0.length := by have := HI.out; omega
      obtain rfl : -1 = r := by
        have h := HM.out
        rw [List.drop_eq_nil_of_le (Nat.le_refl _)] at h
        exact Option.some.inj h
      have hnlt : ¬ ((l0.length : Int) < l0.length) := Int.lt_irrefl _
      go_wp2
      go_ret
      exact ⟨rfl, HS.below⟩
def pfx_Match.f (l0 : List (S41)) (a1_0 : Int) (a1_1 : Int) : Option Bool := (idxF a1_0 a1_1 l0 0).bind fun i => if 0 ≤ i then some (!(rd_T41 l0 i).f0) else some false
set_option maxHeartbeats 8000000 in
set_option maxRecDepth 100000 in
theorem pfx_Match.calls (A0 : Option Addr) (c0 : Nat) (l0 : List (S41)) (a1_0 : Int) (a1_1 : Int) (r : Bool) (w : World) (hr0 : Kd.C k41 w A0 l0.length l0) (hc0 : l0.length ≤ c0) (h : pfx_Match.f l0 a1_0 a1_1 = some r) :
    Calls Try.prog 22 #[.slice A0 l0.length c0, .agg #[.int .u32 a1_0, .int .i64 a1_1]] w fun e w' => e = .returned (.bool r) ∧ Below w.heap.size w w' := by
  have hu24 := Try.underlying24
  have hu41 := Try.underlying41
  have hmf := run_mf2
  obtain ⟨i, hi, h⟩ := Option.bind_eq_some_iff.mp h
  have HR0 := Aside0.mk hr0
  have HI := Aside0.mk hi
  have H := Aside0.mk h
  have hbd := idxF_bd _ _ _ _ _ hi
  have hlen : (l0.length : Int) ≤ 9223372036854775807 := by have := hr0.2.1; omega
  clear hr0 hi h
  have HS := (Sep.nil w).alloc [.int .u32 a1_0, .int .i64 a1_1] 24
  have hc1 := HS.cell (L := []) 0 _ rfl
  have hc2 := HS.cell (L := []) 1 _ rfl
  go_enter Try.func22, Try.ntmps22
  go_wp2_with (fail)
  refine (pfx_Match_idx A0 c0 l0 a1_0 a1_1 w.heap.size i _ (Kd.C_alloc HR0.out _) hc0 hc1 hc2 HI.out).mono ?_
  rintro e w1 ⟨rfl, hb⟩
  have HS1 := HS.keep hb
  clear HS hc1 hc2 hb
  by_cases hp : 0 ≤ i
  · have hpb : decide (0 ≤ i) = true := decide_eq_true hp
    obtain ⟨ad, e1, g0, _⟩ := at_T41 HR0.out i hp (by omega)
    cases e1
    have hx0 := (HS1.below.cell (World.block_lt_of_cell? w _ g0)).trans g0
    clear g0
    have hlt : i < (l0.length : Int) := by omega
    have h := H.out
    rw [if_pos hp] at h
    obtain rfl := Option.some.inj h
    clear h H
    have q1 := eq_true hp
    have q2 := eq_true hlt
    go_wp2
    go_ret
    exact ⟨rfl, HS1.below⟩
  · have hpb : decide (0 ≤ i) = false := decide_eq_false hp
    have h := H.out
    rw [if_neg hp] at h
    obtain rfl := Option.some.inj h
    clear h H
    go_wp2
    go_ret
    exact ⟨rfl, HS1.below⟩
end


/-! ### dragomanref04_Match: function 23 -/
def dragomanref04_Match.l0 : Nat → List (S41) → Int → Int → Int → Int → Option (Bool)
  | 0, _, _, _, _, _ => none
  | k + 1, x7, x8, x9, x178000, x178001 => if x9 < x8 then (if 0 ≤ x9 then (if x9 < (x7.length : Int) then ((dragomanref04_In.f k ((rd_T41 x7 x9).f1.f0.f0) ((rd_T41 x7 x9).f1.f0.f1) ((rd_T41 x7 x9).f1.f1) ((rd_T41 x7 x9).f1.f2) x178000 x178001).bind fun t180 => (if t180 = true then (some (!((rd_T41 x7 x9).f0))) else (dragomanref04_Match.l0 k x7 x8 (wrap64 (x9 + 1)) x178000 x178001))) else (none)) else (none)) else (some false)
def dragomanref04_Match.f (k : Nat) (l0 : List (S41)) (a1_0 : Int) (a1_1 : Int) : Option (Bool) := dragomanref04_Match.l0 k l0 (l0.length : Int) 0 a1_0 a1_1
theorem dragomanref04_Match.mono_l : ∀ k, (∀ y0 y1 y2 y3 y4, LeO (dragomanref04_Match.l0 k y0 y1 y2 y3 y4) (dragomanref04_Match.l0 (k + 1) y0 y1 y2 y3 y4))
  | 0 => fun _ _ _ _ _ r h => by simp [dragomanref04_Match.l0] at h
  | k + 1 => by
    have ih0 := dragomanref04_Match.mono_l k
    · intro y0 y1 y2 y3 y4
      unfold dragomanref04_Match.l0
      repeat' first
      | (with_reducible exact ih0 _ _ _ _ _)
      | (with_reducible exact dragomanref04_In.mono _ _ _ _ _ _ _)
      | (with_reducible exact LeO.refl _)
      | (with_reducible exact LeO.none _)
      | (with_reducible refine LeO.ite ?_ ?_)
      | (with_reducible refine LeO.bind ?_ (fun _ => ?_))
      | exact ih0 _ _ _ _ _
      | exact dragomanref04_In.mono _ _ _ _ _ _ _
      | exact LeO.none _
      | refine LeO.ite ?_ ?_
      | refine LeO.bind ?_ (fun _ => ?_)
theorem dragomanref04_Match.mono : ∀ a0 a1 a2 k, LeO (dragomanref04_Match.f k a0 a1 a2) (dragomanref04_Match.f (k + 1) a0 a1 a2) := by
  intro a0 a1 a2 k
  have ih0 := dragomanref04_Match.mono_l k
  unfold dragomanref04_Match.f
  repeat' first
      | (with_reducible exact ih0 _ _ _ _ _)
      | (with_reducible exact dragomanref04_In.mono _ _ _ _ _ _ _)
      | (with_reducible exact LeO.refl _)
      | (with_reducible exact LeO.none _)
      | (with_reducible refine LeO.ite ?_ ?_)
      | (with_reducible refine LeO.bind ?_ (fun _ => ?_))
      | exact ih0 _ _ _ _ _
      | exact dragomanref04_In.mono _ _ _ _ _ _ _
      | exact LeO.none _
      | refine LeO.ite ?_ ?_
      | refine LeO.bind ?_ (fun _ => ?_)
set_option maxHeartbeats 8000000 in
set_option maxRecDepth 100000 in
theorem dragomanref04_Match.calls (k : Nat) (A0 : Option Addr) (c0 : Nat) (l0 : List (S41)) (a1_0 : Int) (a1_1 : Int) (r : Bool) (w : World) (hr0 : Kd.C k41 w A0 l0.length l0) (hc0 : l0.length ≤ c0) (h : dragomanref04_Match.f k l0 a1_0 a1_1 = some r) :
    Calls Try.prog 23 #[.slice A0 l0.length c0, .agg #[.int .u32 a1_0, .int .i64 a1_1]] w fun e w' => e = .returned (.bool r) ∧ Below w.heap.size w w' := by
  have hu24 := Try.underlying24
  have hu41 := Try.underlying41
  have hu26 := Try.underlying26
  have HR0 := Aside0.mk hr0
  have HC0 := Aside0.mk hc0
  clear hr0 hc0
  have HB := Aside0.mk (Below.refl w.heap.size w)
  have H : (dragomanref04_Match.l0 k l0 (l0.length : Int) 0 a1_0 a1_1) = some r := h
  clear h
  have H' := Aside0.mk H
  clear H
  go_enter Try.func23, Try.ntmps23
  go_wp2_with (first | ((with_reducible refine gate_dst (N := 3) rfl ?_); refine box_event ?hg (N := 3) ?hd (cs := #[.int .u32 a1_0, .int .i64 a1_1]) (t := 24) ?hr ?_; (case hd => rfl); (case hg => rfl); (case hr => first | (go_simp; done) | (go_simp; rfl)); intro gb177 hg w3 hbox hb; have n0_ := Aside0.mk (below_step (by repeat (first | (with_reducible first | exact HB.out | apply below_alloc | apply pw_below_drewN | apply below_drew1) | exact HB.out)) hb); have n1_ := Aside0.mk (hbox); have n2_ := Aside0.mk ((by rw [hg]; exact (below_size (by repeat (first | (with_reducible first | exact HB.out | apply below_alloc | apply pw_below_drewN | apply below_drew1) | exact HB.out))) : w.heap.size ≤ gb177)); have n3_ := Aside0.mk ((by rw [hg]; exact (below_size (by repeat (first | (with_reducible first | exact HB.out | apply below_alloc | apply pw_below_drewN | apply below_drew1) | exact HB.out))) : w.heap.size ≤ gb177)); clear HB; have HB := n0_; have BK177 := n1_; have GW177 := n2_; have GE177 := n3_; clear n0_ n1_ n2_ n3_; clear hb hbox hg))
  go_loopg [9] k (fun kq v9 w' => ∃ (x9_1 : Int), v9 = .int .i64 x9_1 ∧ Aside0 (dragomanref04_Match.l0 kq l0 (l0.length : Int) x9_1 a1_0 a1_1 = some r) ∧ Aside0 (kq ≤ k) ∧ Aside0 (w'.heap[gb177]? = some (.cells #[.int .u32 a1_0, .int .i64 a1_1] 24 (0, 0))) ∧ Aside0 (Below w.heap.size w w'))
  case atStart => exact ⟨(0), (by first | rfl | (simp; done) | (simp [*]; done)), H', ⟨Nat.le_refl _⟩, ⟨by (with_reducible repeat (first | refine blk_drewN ?_ _ | refine blk_drew ?_ | refine blk_alloc ?_ _)); exact BK177.out⟩, ⟨by repeat (first | (with_reducible first | exact HB.out | apply below_alloc | apply pw_below_drewN | apply below_drew1 | refine below_set ?_ GE177.out) | exact HB.out)⟩⟩
  case round =>
    clear H'
    try clear c2
    try clear p2
    obtain ⟨x9_1, rfl, HA, HK1, BK177, HB⟩ := hrel
    cases gk with
    | zero => exact absurd HA.out (by simp [dragomanref04_Match.l0])
    | succ k1 =>
      have H := HA.out
      clear HA
      simp only [dragomanref04_Match.l0] at H
      by_cases c4 : x9_1 < (l0.length : Int)
      · rw [if_pos c4] at H
        have c4b0 : decide (x9_1 < (l0.length : Int)) = true := decide_eq_true c4
        clear c4
        by_cases c5 : 0 ≤ x9_1
        · rw [if_pos c5] at H
          have c5b0 : decide (0 ≤ x9_1) = true := decide_eq_true c5
          clear c5
          by_cases c6 : x9_1 < (l0.length : Int)
          · rw [if_pos c6] at H
            have c6b0 : decide (x9_1 < (l0.length : Int)) = true := decide_eq_true c6
            clear c6
            replace H := Option.bind_eq_some_iff.mp H
            obtain ⟨t180, A70, H⟩ := H
            replace H : (if t180 = true then (some (!((rd_T41 l0 x9_1).f0))) else (dragomanref04_Match.l0 k1 l0 (l0.length : Int) (wrap64 (x9_1 + 1)) a1_0 a1_1)) = some r := H
            have A7 := Aside0.mk A70
            clear A70
            by_cases c8 : t180 = true
            · subst c8
              have H1 : (some (!((rd_T41 l0 x9_1).f0))) = some r := by rw [if_pos rfl] at H; exact H
              clear H
              have H := H1
              clear H1
              obtain rfl := Option.some.inj H
              have p178 : 0 ≤ (x9_1 : Int) := of_decide_eq_true (by first | (with_reducible assumption) | assumption)
              have q178 : x9_1 < (l0.length : Int) := of_decide_eq_true (by first | (with_reducible assumption) | assumption)
              obtain ⟨ad178, e178, hx178_0, hx178_1, hx178_2, hx178_3, hx178_4⟩ := at_T41 HR0.out x9_1 p178 q178
              cases e178
              replace hx178_0 := (HB.out.cell (World.block_lt_of_cell? w _ hx178_0)).trans hx178_0
              replace hx178_1 := (HB.out.cell (World.block_lt_of_cell? w _ hx178_1)).trans hx178_1
              replace hx178_2 := (HB.out.cell (World.block_lt_of_cell? w _ hx178_2)).trans hx178_2
              replace hx178_3 := (HB.out.cell (World.block_lt_of_cell? w _ hx178_3)).trans hx178_3
              replace hx178_4 := (HB.out.cell (World.block_lt_of_cell? w _ hx178_4)).trans hx178_4
              replace p178 := eq_true p178
              replace q178 := eq_true q178
              go_wp2_with (first | ((with_reducible refine gate_dst (N := 6) rfl ?_); refine box_event ?hg (N := 6) ?hd (cs := #[.bool false, .int .u32 0, .int .i64 0, .int .i64 0, .int .i64 0]) (t := 41) ?hr ?_; (case hd => rfl); (case hg => rfl); (case hr => first | (go_simp; done) | (go_simp; rfl)); intro gb179 hg w9 hbox hb; have n0_ := Aside0.mk (blk_below (g := gb177) (o := .cells #[.int .u32 a1_0, .int .i64 a1_1] 24 (0, 0)) (by (with_reducible repeat (first | refine blk_drewN ?_ _ | refine blk_drew ?_ | refine blk_alloc ?_ _)); exact BK177.out) hb); have n1_ := Aside0.mk (below_step (by repeat (first | (with_reducible first | exact HB.out | apply below_alloc | apply pw_below_drewN | apply below_drew1 | refine below_set ?_ GE177.out) | exact HB.out)) hb); have n2_ := Aside0.mk (hbox); have n3_ := Aside0.mk ((by rw [hg]; exact (below_size (by repeat (first | (with_reducible first | exact HB.out | apply below_alloc | apply pw_below_drewN | apply below_drew1 | refine below_set ?_ GE177.out) | exact HB.out))) : w.heap.size ≤ gb179)); have n4_ := Aside0.mk ((by rw [hg]; exact (below_size (by repeat (first | (with_reducible first | exact HB.out | apply below_alloc | apply pw_below_drewN | apply below_drew1 | refine below_set ?_ GE177.out) | exact HB.out))) : w.heap.size ≤ gb179)); have n5_ := Aside0.mk ((by rw [hg]; exact Nat.ne_of_lt (blk_lt (g := gb177) (o := .cells #[.int .u32 a1_0, .int .i64 a1_1] 24 (0, 0)) (by (with_reducible repeat (first | refine blk_drewN ?_ _ | refine blk_drew ?_ | refine blk_alloc ?_ _)); exact BK177.out)) : gb177 ≠ gb179)); have n6_ := Aside0.mk ((by rw [hg]; exact Nat.ne_of_gt (blk_lt (g := gb177) (o := .cells #[.int .u32 a1_0, .int .i64 a1_1] 24 (0, 0)) (by (with_reducible repeat (first | refine blk_drewN ?_ _ | refine blk_drew ?_ | refine blk_alloc ?_ _)); exact BK177.out)) : gb179 ≠ gb177)); clear BK177; clear HB; have BK177 := n0_; have HB := n1_; have BK179 := n2_; have GW179 := n3_; have GE179 := n4_; have NB177_179 := n5_; have NB179_177 := n6_; clear n0_ n1_ n2_ n3_ n4_ n5_ n6_; clear hb hbox hg; have hnb10 := NB179_177.out; have hnc10 := NB177_179.out; have hcz11_0 : w9.cell? ⟨gb179, 0, none⟩ = some (.bool false) := (blk_cell BK179.out 0).trans rfl; have hcz11_1 : w9.cell? ⟨gb179, 1, none⟩ = some (.int .u32 0) := (blk_cell BK179.out 1).trans rfl; have hcz11_2 : w9.cell? ⟨gb179, 2, none⟩ = some (.int .i64 0) := (blk_cell BK179.out 2).trans rfl; have hcz11_3 : w9.cell? ⟨gb179, 3, none⟩ = some (.int .i64 0) := (blk_cell BK179.out 3).trans rfl; have hcz11_4 : w9.cell? ⟨gb179, 4, none⟩ = some (.int .i64 0) := (blk_cell BK179.out 4).trans rfl; have hfz11_0 := blk_frozen BK179.out 0; have hfz11_1 := blk_frozen BK179.out 1; have hfz11_2 := blk_frozen BK179.out 2; have hfz11_3 := blk_frozen BK179.out 3; have hfz11_4 := blk_frozen BK179.out 4; have hcz12_0 : w9.cell? ⟨gb177, 0, none⟩ = some (.int .u32 a1_0) := (blk_cell BK177.out 0).trans rfl; have hcz12_1 : w9.cell? ⟨gb177, 1, none⟩ = some (.int .i64 a1_1) := (blk_cell BK177.out 1).trans rfl; have hfz12_0 := blk_frozen BK177.out 0; have hfz12_1 := blk_frozen BK177.out 1) | ((with_reducible refine gate_callee (f := 21) rfl ?_); refine goesL_ (some 16) rfl rfl Try.func21 (by kernel_rfl) rfl #[.agg #[.int .u32 ((rd_T41 l0 x9_1).f1.f0.f0), .int .i64 ((rd_T41 l0 x9_1).f1.f0.f1), .int .i64 ((rd_T41 l0 x9_1).f1.f1), .int .i64 ((rd_T41 l0 x9_1).f1.f2)], .agg #[.int .u32 a1_0, .int .i64 a1_1]] rfl (by (try simp only [List.map_toArray, List.map_cons, List.map_nil]); first | done | rfl | (simp only [List.length_drop, List.length_take]; rfl)) ?_; (with_reducible refine (dragomanref04_In.calls k1 ((rd_T41 l0 x9_1).f1.f0.f0) ((rd_T41 l0 x9_1).f1.f0.f1) ((rd_T41 l0 x9_1).f1.f1) ((rd_T41 l0 x9_1).f1.f2) a1_0 a1_1 true _ A7.out).mono ?_); rintro e w13 ⟨rfl, hb⟩; refine ⟨_, rfl, ?_⟩; have n0_ := Aside0.mk (blk_below (g := gb177) (o := .cells #[.int .u32 a1_0, .int .i64 a1_1] 24 (0, 0)) (by (with_reducible repeat (first | refine blk_drewN ?_ _ | refine blk_drew ?_ | refine blk_alloc ?_ _)); refine blk_far ?_ NB177_179.out _; (with_reducible repeat (first | refine blk_drewN ?_ _ | refine blk_drew ?_ | refine blk_alloc ?_ _)); refine blk_far ?_ NB177_179.out _; (with_reducible repeat (first | refine blk_drewN ?_ _ | refine blk_drew ?_ | refine blk_alloc ?_ _)); refine blk_far ?_ NB177_179.out _; (with_reducible repeat (first | refine blk_drewN ?_ _ | refine blk_drew ?_ | refine blk_alloc ?_ _)); refine blk_far ?_ NB177_179.out _; (with_reducible repeat (first | refine blk_drewN ?_ _ | refine blk_drew ?_ | refine blk_alloc ?_ _)); refine blk_far ?_ NB177_179.out _; (with_reducible repeat (first | refine blk_drewN ?_ _ | refine blk_drew ?_ | refine blk_alloc ?_ _)); exact BK177.out) hb); have n1_ := Aside0.mk (blk_below (g := gb179) (o := .cells #[.bool ((rd_T41 l0 x9_1).f0), .int .u32 ((rd_T41 l0 x9_1).f1.f0.f0), .int .i64 ((rd_T41 l0 x9_1).f1.f0.f1), .int .i64 ((rd_T41 l0 x9_1).f1.f1), .int .i64 ((rd_T41 l0 x9_1).f1.f2)] 41 (0, 0)) (by (with_reducible repeat (first | refine blk_drewN ?_ _ | refine blk_drew ?_ | refine blk_alloc ?_ _)); refine blk_put (cs := #[.bool ((rd_T41 l0 x9_1).f0), .int .u32 ((rd_T41 l0 x9_1).f1.f0.f0), .int .i64 ((rd_T41 l0 x9_1).f1.f0.f1), .int .i64 ((rd_T41 l0 x9_1).f1.f1), .int .i64 0]) ?_ 4 _ rfl; (with_reducible repeat (first | refine blk_drewN ?_ _ | refine blk_drew ?_ | refine blk_alloc ?_ _)); refine blk_put (cs := #[.bool ((rd_T41 l0 x9_1).f0), .int .u32 ((rd_T41 l0 x9_1).f1.f0.f0), .int .i64 ((rd_T41 l0 x9_1).f1.f0.f1), .int .i64 0, .int .i64 0]) ?_ 3 _ rfl; (with_reducible repeat (first | refine blk_drewN ?_ _ | refine blk_drew ?_ | refine blk_alloc ?_ _)); refine blk_put (cs := #[.bool ((rd_T41 l0 x9_1).f0), .int .u32 ((rd_T41 l0 x9_1).f1.f0.f0), .int .i64 0, .int .i64 0, .int .i64 0]) ?_ 2 _ rfl; (with_reducible repeat (first | refine blk_drewN ?_ _ | refine blk_drew ?_ | refine blk_alloc ?_ _)); refine blk_put (cs := #[.bool ((rd_T41 l0 x9_1).f0), .int .u32 0, .int .i64 0, .int .i64 0, .int .i64 0]) ?_ 1 _ rfl; (with_reducible repeat (first | refine blk_drewN ?_ _ | refine blk_drew ?_ | refine blk_alloc ?_ _)); refine blk_put (cs := #[.bool false, .int .u32 0, .int .i64 0, .int .i64 0, .int .i64 0]) ?_ 0 _ rfl; (with_reducible repeat (first | refine blk_drewN ?_ _ | refine blk_drew ?_ | refine blk_alloc ?_ _)); exact BK179.out) hb); have n2_ := Aside0.mk (below_step (by repeat (first | (with_reducible first | exact HB.out | apply below_alloc | apply pw_below_drewN | apply below_drew1 | refine below_set ?_ GE177.out | refine below_set ?_ GE179.out) | exact HB.out)) hb); clear BK177; clear BK179; clear HB; have BK177 := n0_; have BK179 := n1_; have HB := n2_; clear n0_ n1_ n2_; (try clear hb); (try clear hb2); (try clear hk); (try clear hi); have hcz14_0 : w13.cell? ⟨gb179, 0, none⟩ = some (.bool ((rd_T41 l0 x9_1).f0)) := (blk_cell BK179.out 0).trans rfl; have hcz14_1 : w13.cell? ⟨gb179, 1, none⟩ = some (.int .u32 ((rd_T41 l0 x9_1).f1.f0.f0)) := (blk_cell BK179.out 1).trans rfl; have hcz14_2 : w13.cell? ⟨gb179, 2, none⟩ = some (.int .i64 ((rd_T41 l0 x9_1).f1.f0.f1)) := (blk_cell BK179.out 2).trans rfl; have hcz14_3 : w13.cell? ⟨gb179, 3, none⟩ = some (.int .i64 ((rd_T41 l0 x9_1).f1.f1)) := (blk_cell BK179.out 3).trans rfl; have hcz14_4 : w13.cell? ⟨gb179, 4, none⟩ = some (.int .i64 ((rd_T41 l0 x9_1).f1.f2)) := (blk_cell BK179.out 4).trans rfl; have hfz14_0 := blk_frozen BK179.out 0; have hfz14_1 := blk_frozen BK179.out 1; have hfz14_2 := blk_frozen BK179.out 2; have hfz14_3 := blk_frozen BK179.out 3; have hfz14_4 := blk_frozen BK179.out 4))
              go_ret
              exact ⟨by first | rfl | (simp [errW_none, errW_some] <;> rfl) | (simp [*, errW_none, errW_some] <;> rfl), by repeat (first | (with_reducible first | exact HB.out | apply below_alloc | apply pw_below_drewN | apply below_drew1 | refine below_set ?_ GE177.out | refine below_set ?_ GE179.out) | exact HB.out)⟩
            · replace c8 := Bool.eq_false_iff.mpr c8
              subst c8
              have H1 : (dragomanref04_Match.l0 k1 l0 (l0.length : Int) (wrap64 (x9_1 + 1)) a1_0 a1_1) = some r := by rw [if_neg (show ¬ (false = true) by decide)] at H; exact H
              clear H
              have H := H1
              clear H1
              have H' := Aside0.mk H
              clear H
              have p178 : 0 ≤ (x9_1 : Int) := of_decide_eq_true (by first | (with_reducible assumption) | assumption)
              have q178 : x9_1 < (l0.length : Int) := of_decide_eq_true (by first | (with_reducible assumption) | assumption)
              obtain ⟨ad178, e178, hx178_0, hx178_1, hx178_2, hx178_3, hx178_4⟩ := at_T41 HR0.out x9_1 p178 q178
              cases e178
              replace hx178_0 := (HB.out.cell (World.block_lt_of_cell? w _ hx178_0)).trans hx178_0
              replace hx178_1 := (HB.out.cell (World.block_lt_of_cell? w _ hx178_1)).trans hx178_1
              replace hx178_2 := (HB.out.cell (World.block_lt_of_cell? w _ hx178_2)).trans hx178_2
              replace hx178_3 := (HB.out.cell (World.block_lt_of_cell? w _ hx178_3)).trans hx178_3
              replace hx178_4 := (HB.out.cell (World.block_lt_of_cell? w _ hx178_4)).trans hx178_4
              replace p178 := eq_true p178
              replace q178 := eq_true q178
              go_wp2_with (first | ((with_reducible refine gate_dst (N := 6) rfl ?_); refine box_event ?hg (N := 6) ?hd (cs := #[.bool false, .int .u32 0, .int .i64 0, .int .i64 0, .int .i64 0]) (t := 41) ?hr ?_; (case hd => rfl); (case hg => rfl); (case hr => first | (go_simp; done) | (go_simp; rfl)); intro gb179 hg w15 hbox hb; have n0_ := Aside0.mk (blk_below (g := gb177) (o := .cells #[.int .u32 a1_0, .int .i64 a1_1] 24 (0, 0)) (by (with_reducible repeat (first | refine blk_drewN ?_ _ | refine blk_drew ?_ | refine blk_alloc ?_ _)); exact BK177.out) hb); have n1_ := Aside0.mk (below_step (by repeat (first | (with_reducible first | exact HB.out | apply below_alloc | apply pw_below_drewN | apply below_drew1 | refine below_set ?_ GE177.out) | exact HB.out)) hb); have n2_ := Aside0.mk (hbox); have n3_ := Aside0.mk ((by rw [hg]; exact (below_size (by repeat (first | (with_reducible first | exact HB.out | apply below_alloc | apply pw_below_drewN | apply below_drew1 | refine below_set ?_ GE177.out) | exact HB.out))) : w.heap.size ≤ gb179)); have n4_ := Aside0.mk ((by rw [hg]; exact (below_size (by repeat (first | (with_reducible first | exact HB.out | apply below_alloc | apply pw_below_drewN | apply below_drew1 | refine below_set ?_ GE177.out) | exact HB.out))) : w.heap.size ≤ gb179)); have n5_ := Aside0.mk ((by rw [hg]; exact Nat.ne_of_lt (blk_lt (g := gb177) (o := .cells #[.int .u32 a1_0, .int .i64 a1_1] 24 (0, 0)) (by (with_reducible repeat (first | refine blk_drewN ?_ _ | refine blk_drew ?_ | refine blk_alloc ?_ _)); exact BK177.out)) : gb177 ≠ gb179)); have n6_ := Aside0.mk ((by rw [hg]; exact Nat.ne_of_gt (blk_lt (g := gb177) (o := .cells #[.int .u32 a1_0, .int .i64 a1_1] 24 (0, 0)) (by (with_reducible repeat (first | refine blk_drewN ?_ _ | refine blk_drew ?_ | refine blk_alloc ?_ _)); exact BK177.out)) : gb179 ≠ gb177)); clear BK177; clear HB; have BK177 := n0_; have HB := n1_; have BK179 := n2_; have GW179 := n3_; have GE179 := n4_; have NB177_179 := n5_; have NB179_177 := n6_; clear n0_ n1_ n2_ n3_ n4_ n5_ n6_; clear hb hbox hg; have hnb16 := NB179_177.out; have hnc16 := NB177_179.out; have hcz17_0 : w15.cell? ⟨gb179, 0, none⟩ = some (.bool false) := (blk_cell BK179.out 0).trans rfl; have hcz17_1 : w15.cell? ⟨gb179, 1, none⟩ = some (.int .u32 0) := (blk_cell BK179.out 1).trans rfl; have hcz17_2 : w15.cell? ⟨gb179, 2, none⟩ = some (.int .i64 0) := (blk_cell BK179.out 2).trans rfl; have hcz17_3 : w15.cell? ⟨gb179, 3, none⟩ = some (.int .i64 0) := (blk_cell BK179.out 3).trans rfl; have hcz17_4 : w15.cell? ⟨gb179, 4, none⟩ = some (.int .i64 0) := (blk_cell BK179.out 4).trans rfl; have hfz17_0 := blk_frozen BK179.out 0; have hfz17_1 := blk_frozen BK179.out 1; have hfz17_2 := blk_frozen BK179.out 2; have hfz17_3 := blk_frozen BK179.out 3; have hfz17_4 := blk_frozen BK179.out 4; have hcz18_0 : w15.cell? ⟨gb177, 0, none⟩ = some (.int .u32 a1_0) := (blk_cell BK177.out 0).trans rfl; have hcz18_1 : w15.cell? ⟨gb177, 1, none⟩ = some (.int .i64 a1_1) := (blk_cell BK177.out 1).trans rfl; have hfz18_0 := blk_frozen BK177.out 0; have hfz18_1 := blk_frozen BK177.out 1) | ((with_reducible refine gate_callee (f := 21) rfl ?_); refine goesL_ (some 16) rfl rfl Try.func21 (by kernel_rfl) rfl #[.agg #[.int .u32 ((rd_T41 l0 x9_1).f1.f0.f0), .int .i64 ((rd_T41 l0 x9_1).f1.f0.f1), .int .i64 ((rd_T41 l0 x9_1).f1.f1), .int .i64 ((rd_T41 l0 x9_1).f1.f2)], .agg #[.int .u32 a1_0, .int .i64 a1_1]] rfl (by (try simp only [List.map_toArray, List.map_cons, List.map_nil]); first | done | rfl | (simp only [List.length_drop, List.length_take]; rfl)) ?_; (with_reducible refine (dragomanref04_In.calls k1 ((rd_T41 l0 x9_1).f1.f0.f0) ((rd_T41 l0 x9_1).f1.f0.f1) ((rd_T41 l0 x9_1).f1.f1) ((rd_T41 l0 x9_1).f1.f2) a1_0 a1_1 false _ A7.out).mono ?_); rintro e w19 ⟨rfl, hb⟩; refine ⟨_, rfl, ?_⟩; have n0_ := Aside0.mk (blk_below (g := gb177) (o := .cells #[.int .u32 a1_0, .int .i64 a1_1] 24 (0, 0)) (by (with_reducible repeat (first | refine blk_drewN ?_ _ | refine blk_drew ?_ | refine blk_alloc ?_ _)); refine blk_far ?_ NB177_179.out _; (with_reducible repeat (first | refine blk_drewN ?_ _ | refine blk_drew ?_ | refine blk_alloc ?_ _)); refine blk_far ?_ NB177_179.out _; (with_reducible repeat (first | refine blk_drewN ?_ _ | refine blk_drew ?_ | refine blk_alloc ?_ _)); refine blk_far ?_ NB177_179.out _; (with_reducible repeat (first | refine blk_drewN ?_ _ | refine blk_drew ?_ | refine blk_alloc ?_ _)); refine blk_far ?_ NB177_179.out _; (with_reducible repeat (first | refine blk_drewN ?_ _ | refine blk_drew ?_ | refine blk_alloc ?_ _)); refine blk_far ?_ NB177_179.out _; (with_reducible repeat (first | refine blk_drewN ?_ _ | refine blk_drew ?_ | refine blk_alloc ?_ _)); exact BK177.out) hb); have n1_ := Aside0.mk (blk_below (g := gb179) (o := .cells #[.bool ((rd_T41 l0 x9_1).f0), .int .u32 ((rd_T41 l0 x9_1).f1.f0.f0), .int .i64 ((rd_T41 l0 x9_1).f1.f0.f1), .int .i64 ((rd_T41 l0 x9_1).f1.f1), .int .i64 ((rd_T41 l0 x9_1).f1.f2)] 41 (0, 0)) (by (with_reducible repeat (first | refine blk_drewN ?_ _ | refine blk_drew ?_ | refine blk_alloc ?_ _)); refine blk_put (cs := #[.bool ((rd_T41 l0 x9_1).f0), .int .u32 ((rd_T41 l0 x9_1).f1.f0.f0), .int .i64 ((rd_T41 l0 x9_1).f1.f0.f1), .int .i64 ((rd_T41 l0 x9_1).f1.f1), .int .i64 0]) ?_ 4 _ rfl; (with_reducible repeat (first | refine blk_drewN ?_ _ | refine blk_drew ?_ | refine blk_alloc ?_ _)); refine blk_put (cs := #[.bool ((rd_T41 l0 x9_1).f0), .int .u32 ((rd_T41 l0 x9_1).f1.f0.f0), .int .i64 ((rd_T41 l0 x9_1).f1.f0.f1), .int .i64 0, .int .i64 0]) ?_ 3 _ rfl; (with_reducible repeat (first | refine blk_drewN ?_ _ | refine blk_drew ?_ | refine blk_alloc ?_ _)); refine blk_put (cs := #[.bool ((rd_T41 l0 x9_1).f0), .int .u32 ((rd_T41 l0 x9_1).f1.f0.f0), .int .i64 0, .int .i64 0, .int .i64 0]) ?_ 2 _ rfl; (with_reducible repeat (first | refine blk_drewN ?_ _ | refine blk_drew ?_ | refine blk_alloc ?_ _)); refine blk_put (cs := #[.bool ((rd_T41 l0 x9_1).f0), .int .u32 0, .int .i64 0, .int .i64 0, .int .i64 0]) ?_ 1 _ rfl; (with_reducible repeat (first | refine blk_drewN ?_ _ | refine blk_drew ?_ | refine blk_alloc ?_ _)); refine blk_put (cs := #[.bool false, .int .u32 0, .int .i64 0, .int .i64 0, .int .i64 0]) ?_ 0 _ rfl; (with_reducible repeat (first | refine blk_drewN ?_ _ | refine blk_drew ?_ | refine blk_alloc ?_ _)); exact BK179.out) hb); have n2_ := Aside0.mk (below_step (by repeat (first | (with_reducible first | exact HB.out | apply below_alloc | apply pw_below_drewN | apply below_drew1 | refine below_set ?_ GE177.out | refine below_set ?_ GE179.out) | exact HB.out)) hb); clear BK177; clear BK179; clear HB; have BK177 := n0_; have BK179 := n1_; have HB := n2_; clear n0_ n1_ n2_; (try clear hb); (try clear hb2); (try clear hk); (try clear hi)))
              go_roundg k1
              case measure => have := HK1.out; omega
              case rel => exact ⟨(wrap64 (x9_1 + 1)), (by first | rfl | (simp; done) | (simp [*]; done)), H', ⟨by have := HK1.out; omega⟩, ⟨by (with_reducible repeat (first | refine blk_drewN ?_ _ | refine blk_drew ?_ | refine blk_alloc ?_ _)); exact BK177.out⟩, ⟨by repeat (first | (with_reducible first | exact HB.out | apply below_alloc | apply pw_below_drewN | apply below_drew1 | refine below_set ?_ GE177.out | refine below_set ?_ GE179.out) | exact HB.out)⟩⟩
          · rw [if_neg c6] at H
            exact absurd H (by simp)
        · rw [if_neg c5] at H
          exact absurd H (by simp)
      · rw [if_neg c4] at H
        have c4b0 : decide (x9_1 < (l0.length : Int)) = false := decide_eq_false c4
        clear c4
        obtain rfl := Option.some.inj H
        go_wp2
        go_ret
        exact ⟨by first | rfl | (simp [errW_none, errW_some] <;> rfl) | (simp [*, errW_none, errW_some] <;> rfl), by repeat (first | (with_reducible first | exact HB.out | apply below_alloc | apply pw_below_drewN | apply below_drew1 | refine below_set ?_ GE177.out) | exact HB.out)⟩

end Go.Proofs.Ytgljfjjainlhgaa.PPfxIn
