/- Written for this claim by a program of this session, after the kit's print. Not trusted: Lean checks it. -/
import Derived.Test.YtgljfjjainlhgaaPPfxFlatx0
import Derived.Test.YtgljfjjainlhgaaPPfxFlatx4
import Derived.Test.YtgljfjjainlhgaaPPfxFlatx5
import Derived.Test.YtgljfjjainlhgaaPPfxFlatx6
namespace Go.Proofs.Ytgljfjjainlhgaa.PPfxFlat
open Go.RowKit Go.Proofs.YtgljfjjainlhgaaW.PrintWords Go.Proofs.YtgljfjjainlhgaaW.PrintLast Go.Proofs.YtgljfjjainlhgaaW.PrintMore
attribute [local go_sem] max2_int min2_int max_two min_two max_three min_three max_four min_four   -- for this text's walks alone
set_option linter.unusedVariables false
set_option linter.unusedSimpArgs false

-- GIVEN rounds=1 making=1 info=R,E
-- TYPES P=api.Prefix;R=api.Range;RS=[]api.Range;E=api.PfxEntry;ES=[]api.PfxEntry;ER=api.Errno;
-- FUNCS flat=dragoman/pfx.Flat;minus=dragoman/pfx.Minus;right=dragoman/pfx.Right;bw=slices.Backward[[]dragoman/api.PfxEntry,dragoman/api.PfxEntry];bwc=slices.Backward[[]dragoman/api.PfxEntry,dragoman/api.PfxEntry]$1;
section
open Go.Proofs.Ytgljfjjainlhgaa.Sp
attribute [local go_sem] Oper.semAt_some
/-- An entry's cells. -/
def cE (x : S41) : List Value := [.bool x.f0, .int .u32 x.f1.f0.f0, .int .i64 x.f1.f0.f1, .int .i64 x.f1.f1, .int .i64 x.f1.f2]
def encE (x : Nat × S41) : Array Value := #[.int .i64 x.1, .agg #[.bool x.2.f0, .int .u32 x.2.f1.f0.f0, .int .i64 x.2.f1.f0.f1, .int .i64 x.2.f1.f1, .int .i64 x.2.f1.f2]]
/-- What has come when d rounds are over: the entries from behind. -/
def fromBehind (l : List S41) (d : Nat) : List (Nat × S41) := (List.range d).map fun j => (l.length - 1 - j, l.getD (l.length - 1 - j) z41)
theorem fromBehind_succ (l : List S41) (d : Nat) : fromBehind l (d + 1) = fromBehind l d ++ [(l.length - 1 - d, l.getD (l.length - 1 - d) z41)] := by simp [fromBehind, List.range_succ]
theorem fromBehind_len (l : List S41) (d : Nat) : (fromBehind l d).length = d := by simp [fromBehind]
theorem fromBehind_take (l : List S41) (d : Nat) (h : d ≤ l.length) : (fromBehind l d).map Prod.snd = l.reverse.take d := by
  apply List.ext_getElem
  · simp [fromBehind]; omega
  · intro i h1 h2
    simp [fromBehind] at h1
    simp [fromBehind]
    rw [List.getElem?_eq_getElem (by omega)]
    rfl
/-- A round keeps what lay ahead of the call, and the iterator's box. -/
def KpB (n₀ Bs : Nat) (sv : Value) (W W' : World) : Prop := Below n₀ W W' ∧ (Boxed W Bs 34 sv → Boxed W' Bs 34 sv)
set_option maxHeartbeats 8000000 in
set_option maxRecDepth 100000 in
theorem backward1 (F : Fence) (n : Nat) (hF : F.fn 39) (hro : F.round = none) (hn : 1 ≤ n) (lp Bs : Nat) (A : Option Addr) (c : Nat) (xs : List S41) (w0 : World) (hr : Kd.C k41 w0 A xs.length xs) (J Jx : List (Nat × S41) → World → Prop)
    (hY : ∀ pre x W, J pre W → pre.length < xs.length → YieldAt F (n - 1) Try.prog lp (encE x) W fun e W' =>
      (e = .returned (.bool true) ∧ J (pre ++ [x]) W' ∧ KpB w0.heap.size Bs (.slice A xs.length c) W W') ∨ (e = .returned (.bool false) ∧ Jx (pre ++ [x]) W'))
    (W : World) (hW : Below w0.heap.size w0 W) (hBs : Boxed W Bs 34 (.slice A xs.length c)) (h0 : J [] W) :
    CallsIn F n Try.prog 39 #[.func (.yield lp) #[] #[], .pointer (some ⟨Bs, 0, none⟩)] W fun e W' => (∃ v, e = .returned v) ∧
      ((∃ ys, ys = fromBehind xs xs.length ∧ J ys W') ∨ (∃ pre, (∃ d, d ≤ xs.length ∧ pre = fromBehind xs d) ∧ Jx pre W')) := by
  have hcB := hBs.cell
  have hu41 := Try.underlying41
  have hlen : (xs.length : Int) ≤ 9223372036854775807 := by have := hr.2.1; omega
  have HR := Aside0.mk hr
  clear hr
  refine callsIn_of_wp Try.func39 rfl hF ?_ hro
  simp only [Try.ntmps39, List.size_toArray, List.length_cons, List.length_nil, Nat.reduceAdd, Nat.reduceSub, Array.replicate_succ, Array.replicate_zero, List.push_toArray, List.append_toArray, List.nil_append, List.cons_append]
  gi_wp2
  gi_loopw [3] (fun i wr => ∃ d : Nat, d ≤ xs.length ∧ i = .int .i64 ((xs.length : Int) - 1 - d) ∧ J (fromBehind xs d) wr ∧ Below w0.heap.size w0 wr ∧ Boxed wr Bs 34 (.slice A xs.length c))
    (fun i _ => (intOf i + 1).toNat)
  case atStart => exact ⟨0, Nat.zero_le _, by simp [wrap64], h0, hW, hBs⟩
  case round =>
    obtain ⟨d, hd, rfl, hJs, hwr, hbx⟩ := hrel
    have hcx := hbx.cell
    by_cases hlt : d < xs.length
    · have hge : decide ((0 : Int) ≤ (xs.length : Int) - 1 - d) = true := decide_eq_true (by omega)
      obtain ⟨ad, e1, g0, g1, g2, g3, g4⟩ := at_T41 HR.out ((xs.length : Int) - 1 - d) (by omega) (by omega)
      cases e1
      have hx0 := (hwr.cell (World.block_lt_of_cell? w0 _ g0)).trans g0
      have hx1 := (hwr.cell (World.block_lt_of_cell? w0 _ g1)).trans g1
      have hx2 := (hwr.cell (World.block_lt_of_cell? w0 _ g2)).trans g2
      have hx3 := (hwr.cell (World.block_lt_of_cell? w0 _ g3)).trans g3
      have hx4 := (hwr.cell (World.block_lt_of_cell? w0 _ g4)).trans g4
      have hi : (((xs.length - 1 - d : Nat)) : Int) = (xs.length : Int) - 1 - d := by omega
      have hrd : rd_T41 xs ((xs.length : Int) - 1 - d) = xs.getD (xs.length - 1 - d) z41 := by unfold rd_T41; congr 1; omega
      have ht : ((xs.length : Int) - 1 - (d : Int)).toNat = xs.length - 1 - d := by omega
      rw [hrd, ht] at hx0 hx1 hx2 hx3 hx4
      obtain ⟨fn, tmps, assign, body, hy, hR⟩ := hY _ (xs.length - 1 - d, xs.getD (xs.length - 1 - d) z41) wr hJs (by rw [fromBehind_len]; exact hlt)
      rw [← fromBehind_succ] at hR
      simp only [encE, hi] at hy
      generalize xs.getD (xs.length - 1 - d) z41 = x at hx0 hx1 hx2 hx3 hx4 hy
      have p1 : (0 : Int) ≤ (xs.length : Int) - 1 - d := by omega
      have p2 : (xs.length : Int) - 1 - d < xs.length := by omega
      have q1 := eq_true p1
      have q2 := eq_true p2
      clear g0 g1 g2 g3 g4
      gi_wp2
      refine hR.mono ?_
      rintro e W3 (⟨rfl, hJ3, hk3⟩ | ⟨rfl, hJx3⟩)
      · gi_wp2
        go_roundw
        case rel => exact ⟨d + 1, by omega, by go_num, hJ3, hwr.trans hk3.1, hk3.2 hbx⟩
        case measure => simp [intOf]; omega
      · gi_wp2
        refine bodyPost_ret (results_none rfl _ _ _) rfl ?_
        exact ⟨⟨_, rfl⟩, .inr ⟨_, ⟨d + 1, by omega, rfl⟩, hJx3⟩⟩
    · obtain rfl : d = xs.length := by omega
      have hge : decide ((0 : Int) ≤ (xs.length : Int) - 1 - (xs.length : Nat)) = false := decide_eq_false (by omega)
      gi_wp2
      go_end0
      exact ⟨⟨_, rfl⟩, .inl ⟨_, rfl, hJs⟩⟩
theorem backward_stops (F : Fence) (n : Nat) (hF : F.fn 39) (hro : F.round = none) (hn : 1 ≤ n) (Bs : Nat) (A : Option Addr) (c : Nat) (xs : List S41) (w0 w : World) (hr : Kd.C k41 w0 A xs.length xs) (hb : Below w0.heap.size w0 w) (hBs : Boxed w Bs 34 (.slice A xs.length c)) :
    SeqStopsK F n Try.prog 39 #[.pointer (some ⟨Bs, 0, none⟩)] encE (KpB w0.heap.size Bs (.slice A xs.length c)) (fun ys => ys = fromBehind xs xs.length) (fun pre => ∃ d, d ≤ xs.length ∧ pre = fromBehind xs d) xs.length w := fun l J Jx W hW _ _ hY h0 =>
  backward1 F n hF hro hn l Bs A c xs w0 hr J Jx hY W (hb.trans (hW.mono hb.size)) ((hW.block Bs hBs.lt).trans hBs) h0
set_option maxHeartbeats 1000000 in
theorem backward_in (F : Fence) (n : Nat) (hF : F.fn 32) (hro : F.round = none) (A : Option Addr) (len c : Nat) (w : World) :
    CallsIn F n Try.prog 32 #[.slice A len c] w fun e w' => e = .returned (.func (.func 39) #[] #[.pointer (some ⟨w.heap.size, 0, none⟩)]) ∧ w' = w.alloc (.cells #[.slice A len c] 34) := by
  refine callsIn_of_wp Try.func32 rfl hF ?_ hro
  simp only [Try.ntmps32, List.size_toArray, List.length_cons, List.length_nil, Nat.reduceAdd, Nat.reduceSub, Array.replicate_succ, Array.replicate_zero, List.push_toArray, List.append_toArray, List.nil_append, List.cons_append]
  gi_wp2
  go_ret
  exact ⟨rfl, rfl⟩
theorem KpB_t {n₀ Bs : Nat} {sv : Value} {A B C : World} (h : KpB n₀ Bs sv A B) (k : KpB n₀ Bs sv B C) : KpB n₀ Bs sv A C := ⟨h.1.trans k.1, fun x => k.2 (h.2 x)⟩
theorem KpB_b {n₀ Bs : Nat} {sv : Value} {w : World} (hn : n₀ ≤ w.heap.size) (W : World) (l : Nat) (o o' : Obj) (hl : w.heap.size ≤ l) (h : W.heap[l]? = some o) (hc : o.isCells = false) (hw : o.isWalk = false) : KpB n₀ Bs sv W (W.putObj l o') :=
  ⟨belowK_b hn W l o o' hl h hc hw, fun hb => hb.kept (grownBy_putObj' W l o') (fun e => by
    cases e
    rw [show W.heap[Bs]? = _ from hb] at h
    cases h
    cases hc)⟩

/-! What Flat tells. -/
def flatM (k : Nat) (e : S41) : List S26 → List S26 → Option (List S26)
  | [], acc => some acc
  | x :: xs, acc => (pfx_Minus.f k x.f0.f0 x.f0.f1 x.f1 x.f2 e.f1.f0.f0 e.f1.f0.f1 e.f1.f1 e.f1.f2).bind fun m => if acc.length + m.length < 1000000 then flatM k e xs (acc ++ m) else none
def flatS (k : Nat) (e : S41) (out : List S26) : Option (List S26) := (flatM k e out []).bind fun left => some (if e.f0 = true then left else left ++ [e.f1])
def flatL (k : Nat) : List S41 → List S26 → Option (List S26 × Int)
  | [], out => some (out, 0)
  | e :: r, out => (pfx_Right.f e.f1.f0.f0 e.f1.f0.f1 e.f1.f1 e.f1.f2).bind fun ok => if ok = true then (flatS k e out).bind fun left => if (left.length : Int) > 1024 then some ([], 6) else flatL k r left else flatL k r out
def pfx_Flat.f (k : Nat) (l : List S41) : Option (List S26 × Int) := if 100 ≤ k then flatL k l.reverse [] else none
theorem flatM.mono (k : Nat) (e : S41) : ∀ xs acc, LeO (flatM k e xs acc) (flatM (k + 1) e xs acc)
  | [], _ => LeO.refl _
  | x :: xs, acc => by
    unfold flatM
    exact LeO.bind (pfx_Minus.mono _ _ _ _ _ _ _ _ _) (fun _ => LeO.ite (flatM.mono k e xs _) (LeO.refl _))
theorem flatL.mono (k : Nat) : ∀ xs out, LeO (flatL k xs out) (flatL (k + 1) xs out)
  | [], _ => LeO.refl _
  | e :: r, out => by
    unfold flatL flatS
    exact LeO.bind (LeO.refl _) (fun _ => LeO.ite (LeO.bind (LeO.bind (flatM.mono k e _ _) (fun _ => LeO.refl _)) (fun _ => LeO.ite (LeO.refl _) (flatL.mono k r _))) (flatL.mono k r _))
theorem pfx_Flat.mono : ∀ a0 k, LeO (pfx_Flat.f k a0) (pfx_Flat.f (k + 1) a0) := by
  intro a0 k r h
  unfold pfx_Flat.f at h ⊢
  by_cases hk : 100 ≤ k
  · rw [if_pos hk] at h
    rw [if_pos (by omega)]
    exact flatL.mono k _ _ _ h
  · rw [if_neg hk] at h
    cases h
def RightR (x : S26) : Prop := pfx_Right.f x.f0.f0 x.f0.f1 x.f1 x.f2 = some true
theorem w64_id {x : Int} (h0 : -9223372036854775808 ≤ x) (h1 : x ≤ 9223372036854775807) : wrap64 x = x := by unfold wrap64; omega
theorem wu64 (x : Int) : IntKind.u64.wrap x = x % 18446744073709551616 := by simp [IntKind.wrap, IntKind.bits, IntKind.signed]
theorem pow_bd' {n : Nat} (h : n ≤ 32) : 1 ≤ (2 : Int) ^ n ∧ (2 : Int) ^ n ≤ 4294967296 := by
  have h1 : (2 : Nat) ^ n ≤ 2 ^ 32 := Nat.pow_le_pow_right (by decide) h
  have h0 : 1 ≤ (2 : Nat) ^ n := Nat.one_le_two_pow
  have e : ((2 ^ n : Nat) : Int) = (2 : Int) ^ n := by simp
  have h2 : (2 : Nat) ^ 32 = 4294967296 := by decide
  omega
theorem mxmn (l : Int) : 0 ≤ mx 0 (mn l 32) ∧ mx 0 (mn l 32) ≤ 32 := by unfold mx mn; split <;> split <;> omega
theorem mxmn_id {l : Int} (h0 : 0 ≤ l) (h1 : l ≤ 32) : mx 0 (mn l 32) = l := by unfold mx mn; split <;> split <;> omega
/-- Mask at a masked address. -/
theorem mask_at {r n : Int} (n0 : 0 ≤ n) (n1 : n ≤ 32) (h0 : 0 ≤ r) (h1 : r < 4294967296) (hm : r % 2 ^ (32 - n).toNat = 0) : route_Mask.f r n = some (r, n) := by
  unfold route_Mask.f
  rw [mxmn_id n0 n1]
  have hp := pow_bd' (n := (32 - n).toNat) (by omega)
  have e1 : IntKind.u64.wrap r = r := by rw [wu64]; omega
  have e2 : r / 2 ^ (32 - n).toNat * 2 ^ (32 - n).toNat = r := by
    have := Int.mul_ediv_add_emod r (2 ^ (32 - n).toNat)
    rw [hm, Int.mul_comm] at this
    omega
  rw [e1, e2, e1, Int.emod_eq_of_lt h0 h1]
theorem mask_props (a l : Int) : ∃ r n, route_Mask.f a l = some (r, n) ∧ n = mx 0 (mn l 32) ∧ 0 ≤ n ∧ n ≤ 32 ∧ 0 ≤ r ∧ r < 4294967296 ∧ r % 2 ^ (32 - n).toNat = 0 := by
  have hn := mxmn l
  refine ⟨_, _, rfl, rfl, hn.1, hn.2, ?_, ?_, ?_⟩
  · omega
  · omega
  · generalize mx 0 (mn l 32) = n at hn ⊢
    have hp := pow_bd' (n := (32 - n).toNat) (by omega)
    have hu : 0 ≤ IntKind.u64.wrap a ∧ IntKind.u64.wrap a < 18446744073709551616 := by rw [wu64]; omega
    generalize IntKind.u64.wrap a = u at hu
    have h1 : 0 ≤ u / 2 ^ (32 - n).toNat * 2 ^ (32 - n).toNat := Int.mul_nonneg (Int.ediv_nonneg hu.1 (by omega)) (by omega)
    have h2 : u / 2 ^ (32 - n).toNat * 2 ^ (32 - n).toNat ≤ u := Int.ediv_mul_le _ (by omega)
    have e : IntKind.u64.wrap (u / 2 ^ (32 - n).toNat * 2 ^ (32 - n).toNat) = u / 2 ^ (32 - n).toNat * 2 ^ (32 - n).toNat := by rw [wu64, Int.emod_eq_of_lt h1 (by omega)]
    rw [e]
    have hd : (2 : Int) ^ (32 - n).toNat ∣ 4294967296 := ⟨2 ^ (32 - (32 - n).toNat), by rw [← Int.pow_add, show (32 - n).toNat + (32 - (32 - n).toNat) = 32 by omega]; rfl⟩
    rw [Int.emod_emod_of_dvd _ hd]
    exact Int.mul_emod_left _ _
theorem mask_fix {a l r n : Int} (h : route_Mask.f a l = some (r, n)) : route_Mask.f r n = some (r, n) ∧ n = mx 0 (mn l 32) ∧ 0 ≤ n ∧ n ≤ 32 ∧ 0 ≤ r ∧ r < 4294967296 ∧ r % 2 ^ (32 - n).toNat = 0 := by
  obtain ⟨r', n', e, h1, h2, h3, h4, h5, h6⟩ := mask_props a l
  rw [h] at e
  cases e
  exact ⟨mask_at h2 h3 h4 h5 h6, h1, h2, h3, h4, h5, h6⟩
theorem rightR_iff (x : S26) : RightR x ↔ route_Mask.f x.f0.f0 x.f0.f1 = some (x.f0.f0, x.f0.f1) ∧ x.f0.f1 ≤ x.f1 ∧ x.f1 ≤ x.f2 ∧ x.f2 ≤ 32 := by
  unfold RightR pfx_Right.f
  obtain ⟨r, n, e, _⟩ := mask_props x.f0.f0 x.f0.f1
  rw [e]
  simp only [Option.bind_some, Option.some.injEq, Prod.mk.injEq]
  by_cases h1 : x.f0.f0 = r
  · by_cases h2 : x.f0.f1 = n
    · simp only [h1, h2, beq_self_eq_true, Bool.and_self, if_true, and_self, true_and]
      by_cases h3 : x.f1 ≥ n
      · rw [if_pos h3]
        by_cases h4 : x.f2 ≥ x.f1
        · rw [if_pos h4]
          simp
          omega
        · rw [if_neg h4]
          simp
          omega
      · rw [if_neg h3]
        simp
        omega
    · have : (x.f0.f1 == n) = false := by simpa using h2
      simp only [this, Bool.and_false, Bool.false_eq_true, if_false]
      simp
      omega
  · have : (x.f0.f0 == r) = false := by simpa using h1
    simp only [this, Bool.false_and, Bool.false_eq_true, if_false]
    simp
    omega
theorem putR_right {out : List S26} {a l ge le : Int} (ho : ∀ x ∈ out, RightR x) (h : ge ≤ le → RightR ⟨⟨a, l⟩, ge, le⟩) : ∀ x ∈ putR out a l ge le, RightR x := by
  unfold putR
  by_cases hc : ge ≤ le
  · rw [if_pos hc]
    intro x hx
    rcases List.mem_append.1 hx with hx | hx
    · exact ho x hx
    · rw [List.mem_singleton.1 hx]
      exact h hc
  · rw [if_neg hc]
    exact ho
theorem putR_len (out : List S26) (a l ge le : Int) : (putR out a l ge le).length ≤ out.length + 1 := by
  unfold putR
  split <;> simp
theorem begins_total (a b0 b1 : Int) (h0 : 0 ≤ b1) (h1 : b1 ≤ 32) : ∃ t, pfx_begins.f a b0 b1 = some t := by
  unfold pfx_begins.f
  rw [w64_id (by omega) (by omega), if_pos (by omega)]
  exact ⟨_, rfl⟩
theorem meet_total (k : Nat) (hk : 100 ≤ k) (a b : S26) (ha : RightR a) (hb : RightR b) : ∃ m0 m1 m2 m3 ok, pfx_Meet.f k a.f0.f0 a.f0.f1 a.f1 a.f2 b.f0.f0 b.f0.f1 b.f1 b.f2 = some (m0, m1, m2, m3, ok) ∧ (ok = true → route_Mask.f m0 m1 = some (m0, m1) ∧ a.f0.f1 ≤ m1 ∧ m1 ≤ m2 ∧ m2 ≤ m3 ∧ a.f1 ≤ m2 ∧ m3 ≤ a.f2) := by
  have ha1 := (rightR_iff a).1 ha
  have hb1 := (rightR_iff b).1 hb
  have ha2 := mask_fix ha1.1
  have hb2 := mask_fix hb1.1
  obtain ⟨k, rfl⟩ : ∃ j, k = j + 1 := ⟨k - 1, by omega⟩
  unfold pfx_Meet.f
  rw [show pfx_Right.f a.f0.f0 a.f0.f1 a.f1 a.f2 = some true from ha, show pfx_Right.f b.f0.f0 b.f0.f1 b.f1 b.f2 = some true from hb]
  simp only [Option.bind_some, if_true, Bool.not_true, pfx_Meet.j0, Bool.false_eq_true, if_false]
  by_cases hl : a.f0.f1 > b.f0.f1
  · rw [if_pos hl]
    obtain ⟨t, ht⟩ := begins_total a.f0.f0 b.f0.f0 b.f0.f1 hb2.2.2.1 hb2.2.2.2.1
    rw [ht]
    simp only [Option.bind_some]
    by_cases h1 : t = true
    · rw [if_pos h1]
      by_cases h2 : mx b.f1 a.f1 > mn b.f2 a.f2
      · rw [if_pos h2]
        exact ⟨_, _, _, _, _, rfl, by simp⟩
      · rw [if_neg h2]
        refine ⟨_, _, _, _, _, rfl, fun _ => ⟨ha1.1, by omega, ?_, by omega, ?_, ?_⟩⟩
        all_goals (unfold mx mn at *; split <;> omega)
    · rw [if_neg h1]
      exact ⟨_, _, _, _, _, rfl, by simp⟩
  · rw [if_neg hl]
    obtain ⟨t, ht⟩ := begins_total b.f0.f0 a.f0.f0 a.f0.f1 ha2.2.2.1 ha2.2.2.2.1
    rw [ht]
    simp only [Option.bind_some]
    by_cases h1 : t = true
    · rw [if_pos h1]
      by_cases h2 : mx a.f1 b.f1 > mn a.f2 b.f2
      · rw [if_pos h2]
        exact ⟨_, _, _, _, _, rfl, by simp⟩
      · rw [if_neg h2]
        refine ⟨_, _, _, _, _, rfl, fun _ => ⟨hb1.1, by omega, ?_, by omega, ?_, ?_⟩⟩
        all_goals (unfold mx mn at *; split <;> omega)
    · rw [if_neg h1]
      exact ⟨_, _, _, _, _, rfl, by simp⟩
theorem minus_l0 (a m : S26) (ha : RightR a) (hm : route_Mask.f m.f0.f0 m.f0.f1 = some (m.f0.f0, m.f0.f1)) (h1 : a.f0.f1 ≤ m.f0.f1) (h2 : m.f0.f1 ≤ m.f1) (h3 : m.f1 ≤ m.f2) (h4 : a.f1 ≤ m.f1) (h5 : m.f2 ≤ a.f2) (d : Nat) :
    ∀ (k : Nat) (n : Int) (out : List S26), n + d = m.f0.f1 + 1 → a.f0.f1 + 1 ≤ n → d < k → (∀ x ∈ out, RightR x) → out.length + d < 800000 → ∃ r, pfx_Minus.l0 k a m out n = some r ∧ (∀ x ∈ r, RightR x) ∧ r.length ≤ out.length + d + 1 := by
  have ha1 := (rightR_iff a).1 ha
  have ha2 := mask_fix ha1.1
  have hm2 := mask_fix hm
  induction d with
  | zero =>
    intro k n out hn hn1 hk ho hl
    obtain ⟨k, rfl⟩ : ∃ j, k = j + 1 := ⟨k - 1, by omega⟩
    simp only [pfx_Minus.l0]
    rw [if_pos (by omega), if_neg (by omega), w64_id (by omega) (by omega)]
    refine ⟨_, rfl, putR_right ho (fun hc => (rightR_iff _).2 ⟨ha1.1, ?_, ?_, ?_⟩), ?_⟩
    · show a.f0.f1 ≤ m.f2 + 1
      omega
    · exact hc
    · exact ha1.2.2.2
    · have := putR_len out a.f0.f0 a.f0.f1 (m.f2 + 1) a.f2
      omega
  | succ d ih =>
    intro k n out hn hn1 hk ho hl
    obtain ⟨k, rfl⟩ : ∃ j, k = j + 1 := ⟨k - 1, by omega⟩
    simp only [pfx_Minus.l0]
    rw [if_pos (by omega), if_pos (by omega), w64_id (x := 32 - n) (by omega) (by omega), if_pos (by omega)]
    generalize Go.bits .xor .u32 m.f0.f0 (IntKind.u32.wrap (2 ^ min (32 - n).toNat 32)) = z
    obtain ⟨q1, q2, hq, hq2, _⟩ := mask_props z n
    rw [hq]
    simp only [Option.bind_some]
    rw [w64_id (x := n + 1) (by omega) (by omega)]
    rw [mxmn_id (by omega) (by omega)] at hq2
    subst hq2
    have hlen := putR_len out q1 q2 m.f1 m.f2
    obtain ⟨r, hr, hr1, hr2⟩ := ih k (q2 + 1) (putR out q1 q2 m.f1 m.f2) (by omega) (by omega) (by omega) (putR_right ho (fun hc => (rightR_iff _).2 ⟨(mask_fix hq).1, by show q2 ≤ m.f1; omega, hc, by show m.f2 ≤ 32; omega⟩)) (by omega)
    exact ⟨r, hr, hr1, by omega⟩
theorem minus_total (k : Nat) (hk : 100 ≤ k) (a b : S26) (ha : RightR a) (hb : RightR b) : ∃ m, pfx_Minus.f k a.f0.f0 a.f0.f1 a.f1 a.f2 b.f0.f0 b.f0.f1 b.f1 b.f2 = some m ∧ (∀ x ∈ m, RightR x) ∧ m.length ≤ 40 := by
  have ha1 := (rightR_iff a).1 ha
  have ha2 := mask_fix ha1.1
  obtain ⟨m0, m1, m2, m3, ok, hm, hok⟩ := meet_total k hk a b ha hb
  unfold pfx_Minus.f
  rw [show pfx_Right.f a.f0.f0 a.f0.f1 a.f1 a.f2 = some true from ha, hm]
  simp only [Option.bind_some, if_true]
  cases ok with
  | false => exact ⟨[a], by simp, by simpa using ha, by simp⟩
  | true =>
    obtain ⟨h1, h2, h3, h4, h5, h6⟩ := hok rfl
    have hm2 := mask_fix h1
    have hlen := putR_len [] a.f0.f0 a.f0.f1 a.f1 (wrap64 (m2 - 1))
    obtain ⟨r, hr, hr1, hr2⟩ := minus_l0 a ⟨⟨m0, m1⟩, m2, m3⟩ ha h1 h2 h3 h4 h5 h6 (m1 - a.f0.f1).toNat k (a.f0.f1 + 1) (putR [] a.f0.f0 a.f0.f1 a.f1 (wrap64 (m2 - 1))) (by show a.f0.f1 + 1 + ((m1 - a.f0.f1).toNat : Int) = m1 + 1; omega) (by omega) (by omega)
      (putR_right (by simp) (fun hc => (rightR_iff _).2 ⟨ha1.1, ha1.2.1, hc, by show wrap64 (m2 - 1) ≤ 32; rw [w64_id (by omega) (by omega)]; omega⟩)) (by simp at hlen; omega)
    refine ⟨r, ?_, hr1, by simp at hlen; omega⟩
    simp only [if_true]
    rw [w64_id (x := a.f0.f1 + 1) (by omega) (by omega)]
    exact hr
theorem right_total (x : S26) : ∃ b, pfx_Right.f x.f0.f0 x.f0.f1 x.f1 x.f2 = some b := by
  unfold pfx_Right.f route_Mask.f
  simp only [Option.bind_some]
  split
  · split
    · split
      · exact ⟨_, rfl⟩
      · exact ⟨_, rfl⟩
    · exact ⟨_, rfl⟩
  · exact ⟨_, rfl⟩
theorem row_unique {w : World} {base e sz n n' : Nat} {v : Value} {cs cs' : List Value} (h : w.ownsRow base e sz v n cs) (h' : w.ownsRow base e sz v n' cs') : n = n' ∧ cs = cs' := by
  obtain ⟨h1, h2⟩ := h
  obtain ⟨h1', h2'⟩ := h'
  rcases h2 with ⟨rfl, rfl⟩ | ⟨g, cap, cur, rfl, hg, hh, hn, hm, hs, ht⟩
  · rcases h2' with ⟨_, rfl⟩ | ⟨g', cap', cur', e', _⟩
    · simp at h1 h1'
      exact ⟨rfl, by rw [h1, h1']⟩
    · cases e'
  · rcases h2' with ⟨e', _⟩ | ⟨g', cap', cur', e', hg', hh', hn', hm', hs', ht'⟩
    · cases e'
    · cases e'
      rw [hh] at hh'
      cases hh'
      exact ⟨rfl, by rw [← ht, ← ht']⟩
theorem addr_add (ad : Addr) (k j : Nat) : (ad.add k).add j = ad.add (k + j) := by
  unfold Addr.add
  by_cases hk : k = 0
  · subst hk; simp
  · by_cases hj0 : j = 0
    · subst hj0; simp [hk]
    · rw [if_neg hk, if_neg hj0, if_neg (by omega)]; simp [Nat.add_assoc]
theorem viewR {w : World} {A : Option Addr} {xs : List S26} (h : Kd.C k26 w A xs.length xs) : View w A (xs.flatMap cR) := fun h0 => by
  have hne : 0 < xs.length := by
    cases xs with
    | nil => simp at h0
    | cons x r => simp
  obtain ⟨ad, e, hc⟩ := h.2.2 hne
  refine ⟨ad, e, ?_⟩
  have hc' : ∀ (i : Nat) p, xs[i]? = some p → ∀ t u, (cR p)[t]? = some u → w.cell? (ad.add (i * 4 + t)) = some u := by
    intro i p hp t u ht
    obtain ⟨c, hl, hk, hcell⟩ := hc i p hp
    obtain rfl := k26_open hk
    exact hcell t u ht
  clear hc h hne h0 e
  induction xs generalizing ad with
  | nil => intro j u hj; simp at hj
  | cons x r ih =>
    intro j u hj
    rw [List.flatMap_cons] at hj
    by_cases h4 : j < 4
    · rw [List.getElem?_append_left (by simpa [cR] using h4)] at hj
      simpa using hc' 0 x rfl j u hj
    · rw [List.getElem?_append_right (by simp [cR]; omega)] at hj
      have := ih (ad.add 4) (fun i p hp t v ht => by
        have := hc' (i + 1) p (by simpa using hp) t v ht
        rw [addr_add]
        rwa [show 4 + (i * 4 + t) = (i + 1) * 4 + t by omega]) (j - 4) u (by simpa [cR] using hj)
      rw [addr_add] at this
      rwa [show 4 + (j - 4) = j by omega] at this
theorem Sep.kdR {w w' : World} {L F : List Res} {v : Value} {xs : List S26} (h : Sep w w' (L ++ .row 26 4 v xs.length (xs.flatMap cR) :: F)) : Kd.R k26 26 w' w.heap.size (fun _ => True) v xs :=
  ⟨fun _ _ => trivial, _, h.row, reps_flatR xs _ _ _⟩
theorem flatM_total (k : Nat) (hk : 100 ≤ k) (e : S41) (he : RightR e.f1) : ∀ (xs acc : List S26), (∀ x ∈ xs, RightR x) → (∀ x ∈ acc, RightR x) → acc.length + 40 * xs.length < 1000000 → ∃ left, flatM k e xs acc = some left ∧ (∀ x ∈ left, RightR x) ∧ left.length ≤ acc.length + 40 * xs.length
  | [], acc, _, ha, _ => ⟨acc, rfl, ha, by simp⟩
  | x :: xs, acc, hx, ha, hl => by
    obtain ⟨m, hm, hmr, hml⟩ := minus_total k hk x e.f1 (hx x List.mem_cons_self) he
    simp only [List.length_cons] at hl
    obtain ⟨left, h1, h2, h3⟩ := flatM_total k hk e he xs (acc ++ m) (fun y hy => hx y (List.mem_cons_of_mem _ hy)) (fun y hy => by
      rcases List.mem_append.1 hy with h | h
      · exact ha y h
      · exact hmr y h) (by rw [List.length_append]; omega)
    refine ⟨left, ?_, h2, by rw [List.length_append] at h3; simp only [List.length_cons]; omega⟩
    unfold flatM
    rw [hm]
    simp only [Option.bind_some]
    rw [if_pos (by omega)]
    exact h1
theorem cR_one (m : List S26) : ∀ u ∈ m.flatMap cR, u.oneCell' = true := by
  intro u hu
  obtain ⟨x, _, hx⟩ := List.mem_flatMap.1 hu
  simp only [cR, List.mem_cons, List.not_mem_nil, or_false] at hx
  rcases hx with rfl | rfl | rfl | rfl <;> rfl
theorem below_two {n : Nat} {w A B : World} (h : Below n w A) (h' : Below n w B) (hs : A.heap.size ≤ B.heap.size) : Below n A B :=
  ⟨h'.os.trans h.os.symm, h'.tape.trans h.tape.symm, h'.output.trans h.output.symm, hs, fun k hk => by
    have h0 := h.block k hk
    have h1 := h'.block k hk
    rw [h1, h0]⟩
theorem results_cell2 {fn : Func} {p q : Tmp} {ty ty2 : TypeId} (h : fn.results = #[.cell p ty, .cell q ty2]) (tmps : Array Value) (P : Program) (w : World) :
    (results fn tmps).run P w = ((asAddr (tmps.getD p undef)).run P w).andThen fun a w₁ => ((loadVar ty a).run P w₁).andThen fun v w₂ => ((asAddr (tmps.getD q undef)).run P w₂).andThen fun b w₃ => ((loadVar ty2 b).run P w₃).andThen fun v' w₄ => .ok (.tuple #[v, v']) w₄ := by
  simp only [results, h]
  simp [Sem.run_bind, Result.andThen]
def restF (w : World) (A0 : Option Addr) (m c0 : Nat) (v : Value) (e2 : Value) (v2 : Value) : List Res := [.var (w.heap.size + 3) 34 [.slice A0 m c0], .var (w.heap.size + 2) 31 [v], .var (w.heap.size + 1) 35 [e2], .var w.heap.size 31 [v2]]
set_option maxHeartbeats 8000000 in
set_option maxRecDepth 100000 in
theorem pfx_Flat.calls (k : Nat) (A0 : Option Addr) (c0 : Nat) (l0 : List (S41)) (r1 : List (S26)) (r2 : Int) (w : World) (hr0 : Kd.C k41 w A0 l0.length l0) (hc0 : l0.length ≤ c0) (h : pfx_Flat.f k l0 = some (r1, r2)) :
    Calls Try.prog 16 #[.slice A0 l0.length c0] w fun e w' => ∃ v0_ : Value, e = .returned (.tuple #[v0_, .int .i64 r2]) ∧ Kd.R k26 26 w' w.heap.size (fun _ => True) v0_ r1 ∧ Below w.heap.size w w' := by
  have hk : 100 ≤ k := by
    unfold pfx_Flat.f at h
    by_cases hk : 100 ≤ k
    · exact hk
    · rw [if_neg hk] at h
      cases h
  have H := Aside0.mk (show flatL k l0.reverse [] = some (r1, r2) by unfold pfx_Flat.f at h; rwa [if_pos hk] at h)
  clear h
  have HR := Aside0.mk hr0
  clear hr0
  refine (callsIn_wide (n := 8)).1 ?_
  have h1 : 1 ≤ 8 := by decide
  refine callsIn_of_wp_marks Try.func16 rfl trivial ?_ rfl
  simp only [Try.ntmps16, List.size_toArray, List.length_cons, List.length_nil, Nat.reduceAdd, Nat.reduceSub, Array.replicate_succ, Array.replicate_zero, List.push_toArray, List.append_toArray, List.nil_append, List.cons_append]
  have HS0 := ((((Sep.nil w).alloc [.slice none 0 0] 31).alloc [.int .i64 0] 35).alloc [.slice none 0 0] 31).alloc [.slice A0 l0.length c0] 34
  simp only [World.size_alloc] at HS0
  gi_wp2_with (fail)
  refine ⟨trivial, ?_⟩
  refine (backward_in Fence.wide 7 trivial rfl _ _ _ _).mono ?_
  rintro e w' ⟨rfl, rfl⟩
  simp only [World.size_alloc, Nat.add_assoc, Nat.reduceAdd] at HS0 ⊢
  have hsz : ((((w.alloc (.cells #[.slice none 0 0] 31)).alloc (.cells #[.int .i64 0] 35)).alloc (.cells #[.slice none 0 0] 31)).alloc (.cells #[.slice A0 l0.length c0] 34)).heap.size = w.heap.size + 4 := by simp [World.size_alloc]
  generalize (((w.alloc (.cells #[.slice none 0 0] 31)).alloc (.cells #[.int .i64 0] 35)).alloc (.cells #[.slice none 0 0] 31)).alloc (.cells #[.slice A0 l0.length c0] 34) = W0 at HS0 hsz ⊢
  gi_wp2
  have hbox : Boxed W0 (w.heap.size + 3) 34 (.slice A0 l0.length c0) := (HS0.var_heap (L := [])).2.2
  refine wpIn_rangeFunc_ownH (α := Nat × S41) rfl h1 (gf := 39) (lb := #[.pointer (some ⟨w.heap.size + 3, 0, none⟩)]) rfl trivial (enters_of Try.func39 (by kernel_rfl) rfl)
    (backward_stops Fence.wide 7 trivial rfl (by decide) (w.heap.size + 3) A0 c0 l0 w W0 HR.out HS0.below hbox) KpB_t (KpB_b (by omega)) (Below.refl _ _) (fun _ => rfl)
    (fun pre W => ∃ (out : List S26) (v : Value), (out.length ≤ 1024 ∧ ∀ x ∈ out, RightR x) ∧ (∀ rest, flatL k (pre.map Prod.snd ++ rest) [] = flatL k rest out) ∧ Sep w W (.row 26 4 v out.length (out.flatMap cR) :: restF w A0 l0.length c0 v (.int .i64 0) (.slice none 0 0)))
    (fun c pre W => c = Code.ret ∧ (∀ rest, flatL k (pre.map Prod.snd ++ rest) [] = some ([], 6)) ∧ ∃ v, Sep w W (restF w A0 l0.length c0 v (.int .i64 6) (.slice none 0 0)))
    ?hI ?hIx ?h0
    (fun x a' W => ∃ Bx v n cs, Sep w W (.var Bx 41 (cE x.2) :: .row 26 4 v n cs :: restF w A0 l0.length c0 v (.int .i64 0) (.slice none 0 0)) ∧ a' = { tmps := #[.slice A0 l0.length c0, undef, .pointer (some ⟨w.heap.size, 0, none⟩), .pointer (some ⟨w.heap.size + 1, 0, none⟩), .pointer (some ⟨w.heap.size + 2, 0, none⟩), undef, .pointer (some ⟨Bx, 0, none⟩), undef, undef, undef, .slice A0 l0.length c0, .func (.func 39) #[] #[.pointer (some ⟨w.heap.size + 3, 0, none⟩)], .int .i64 x.1, .agg #[.bool x.2.f0, .int .u32 x.2.f1.f0.f0, .int .i64 x.2.f1.f0.f1, .int .i64 x.2.f1.f1, .int .i64 x.2.f1.f2], undef, undef, undef, undef, undef, undef, undef, undef, undef, undef, undef, undef, undef, undef, undef, undef, undef, undef, undef, undef, undef, undef, undef, undef, undef, undef, undef, undef, undef, undef], defers := [] })
    ?hAx ?assign ?body ?done ?stop
  case hI =>
    rintro s A B row ⟨out, v, h1, h2, hS⟩ hg hr
    exact ⟨out, v, h1, h2, hS.grown hg (fun j e => ⟨by have := (hr j e).1; omega, (hr j e).2⟩)⟩
  case hIx =>
    rintro c s A B row ⟨h1, h2, v, hS⟩ hg hr
    exact ⟨h1, h2, v, hS.grown hg (fun j e => ⟨by have := (hr j e).1; omega, (hr j e).2⟩)⟩
  case h0 => exact ⟨[], .slice none 0 0, ⟨by simp, by simp⟩, fun _ => rfl, HS0.row_nil 26 4⟩
  case hAx =>
    rintro x a' s A B row ⟨Bx, v, n, cs, hS, e⟩ hg hr
    exact ⟨Bx, v, n, cs, hS.grown hg (fun j e => ⟨by have := (hr j e).1; omega, (hr j e).2⟩), e⟩
  case assign =>
    rintro l pre x W K ⟨out, v, ho, hf, hS⟩ hK
    simp only [encE]
    gi_wp2
    have hX := hS.alloc (cE x.2) 41
    exact hK _ _ ((KeepsOthers.alloc _ _).from _) ⟨below_two hS.below hX.below (by simp), fun _ => (hX.var_heap (L := [_, _])).2.2⟩ ⟨out, v, ho, hf, hX.tail⟩ ⟨W.heap.size, v, _, _, hX, rfl⟩
  case body =>
    rintro l pre x a' W hl ⟨rr, hrr⟩ ⟨out, v, ⟨ho1, ho2⟩, hf, hS⟩ ⟨Bx, v', n', cs', hX, rfl⟩ hlt
    obtain rfl : v' = v := by
      have e1 := (hS.var_heap (L := [_, _])).2.2
      have e2 := (hX.var_heap (L := [_, _, _])).2.2
      rw [e1] at e2
      simpa using e2.symm
    obtain ⟨rfl, rfl⟩ := row_unique (hX.row (L := [_])) (hS.row (L := []))
    obtain ⟨iv, x⟩ := x
    simp only at hX ⊢
    have hsW := hS.below.size
    clear hS
    have hx1 := hX.cell (L := []) 1 _ rfl
    have hx2 := hX.cell (L := []) 2 _ rfl
    have hx3 := hX.cell (L := []) 3 _ rfl
    have hx4 := hX.cell (L := []) 4 _ rfl
    obtain ⟨b, hb⟩ := right_total x.f1
    have Hb := Aside0.mk hb
    have HF := Aside0.mk hf
    have HO := Aside0.mk ho2
    clear hb hf ho2
    have h1' : 1 ≤ 8 - 1 - 1 := by decide
    gi_wp2_with (fail)
    refine ⟨trivial, ?_⟩
    refine (CallsIn.inRound l (callsIn_wide.2 (pfx_Right.calls _ _ _ _ b _ Hb.out))).mono ?_
    rintro e w1 ⟨rfl, hb1⟩
    have hX1 := hX.keep hb1
    have hK1 := keeps_of_below hb1
    have hbd : ∀ w', Sep w w' (restF w A0 l0.length c0 v' (.int .i64 0) (.slice none 0 0)) → W.heap.size ≤ w'.heap.size → True := fun _ _ _ => trivial
    have HXW := Aside0.mk hX.below
    clear hX hx1 hx2 hx3 hx4 hbd
    cases b with
    | false =>
      gi_wp2
      refine ⟨hK1.from _, ⟨below_two HXW.out hX1.below hb1.size, fun _ => (hX1.var_heap (L := [_, _])).2.2⟩, out, v', ⟨ho1, HO.out⟩, ?_, hX1.tail⟩
      intro rest
      have h := HF.out ([x] ++ rest)
      rw [List.map_append, List.append_assoc]
      refine h.trans ?_
      simp only [List.singleton_append, flatL]
      rw [Hb.out]
      simp
    | true =>
      obtain ⟨left, hl1, hl2, hl3⟩ := flatM_total k hk x Hb.out out [] HO.out (by simp) (by simp; omega)
      have HL := Aside0.mk hl1
      have HLR := Aside0.mk hl2
      clear hl1 hl2
      obtain ⟨A, c, rfl, hac, hC⟩ := Kd.R_reads (Sep.kdR (L := [_]) hX1)
      clear hC
      have hd := hX1.cell (L := []) 0 _ rfl
      have ht4 := hX1.cell (L := [_, _, _]) 0 _ rfl
      gi_wp2
      gi_loopg [7, 20] out.length (fun kq v7 v20 w' => ∃ (i : Nat) (acc : List S26), v20 = .int .i64 i ∧ Aside0 (i + kq = out.length) ∧ Aside0 (flatM k x (out.drop i) acc = some left) ∧ Aside0 (KeepsOthers W w') ∧ Sep w w' (.row 26 4 v7 acc.length (acc.flatMap cR) :: .var Bx 41 (cE x) :: .row 26 4 (.slice A out.length c) out.length (out.flatMap cR) :: restF w A0 l0.length c0 (.slice A out.length c) (.int .i64 0) (.slice none 0 0)))
      case atStart => exact ⟨0, [], rfl, ⟨by omega⟩, HL, ⟨hK1⟩, hX1.row_nil 26 4⟩
      case round =>
        clear hX1 hd ht4
        obtain ⟨i, acc, rfl, HI, HM, HK, HY⟩ := hrel
        have hlen : out.length < 2000 := by omega
        by_cases hi : i < out.length
        · obtain ⟨_, _, hC⟩ := Kd.R_reads' (Sep.kdR (L := [_, _]) HY)
          obtain ⟨ad, e1, g0, g1, g2, g3⟩ := at_T26 hC (i : Int) (by omega) (by omega)
          cases e1
          have hrd : rd_T26 out (i : Int) = out[i] := by unfold rd_T26; simp [hi]
          rw [hrd] at g0 g1 g2 g3
          simp only [Int.toNat_natCast] at g0 g1 g2 g3
          have hm0 := HM.out
          rw [List.drop_eq_getElem_cons hi] at hm0
          generalize out[i] = y at g0 g1 g2 g3 hm0
          unfold flatM at hm0
          obtain ⟨m, hm, hm0⟩ := Option.bind_eq_some_iff.mp hm0
          by_cases hacc : acc.length + m.length < 1000000
          · rw [if_pos hacc] at hm0
            have Hm := Aside0.mk hm
            have HM' := Aside0.mk hm0
            clear hm hm0 HM hrd hC
            have HY2 := HY.alloc [.int .u32 y.f0.f0, .int .i64 y.f0.f1, .int .i64 y.f1, .int .i64 y.f2] 26
            have hb1 := HY2.cell (L := [_, _]) 1 _ rfl
            have hb2 := HY2.cell (L := [_, _]) 2 _ rfl
            have hb3 := HY2.cell (L := [_, _]) 3 _ rfl
            have hb4 := HY2.cell (L := [_, _]) 4 _ rfl
            gi_wp2_with (fail)
            refine ⟨trivial, ?_⟩
            refine (CallsIn.inRound l (callsIn_wide.2 (pfx_Minus.calls k _ _ _ _ _ _ _ _ m _ Hm.out))).mono ?_
            rintro e w3 ⟨v3, rfl, hR3, hb3'⟩
            obtain ⟨A3, c3, rfl, hc3, hC3⟩ := Kd.R_reads hR3
            have HY3 := HY2.tail.keep hb3'
            have HK3 := Aside0.mk ((HK.out.trans (KeepsOthers.alloc wr (.cells #[.int .u32 y.f0.f0, .int .i64 y.f0.f1, .int .i64 y.f1, .int .i64 y.f2] 26))).trans (keeps_of_below hb3'))
            clear HY HY2 hR3 hb3' HK g0 g1 g2 g3 hb1 hb2 hb3 hb4
            gi_wp2_with (gi_at_builtin; refine append_listIn (L := []) (F := _ :: _ :: _) HY3 (.tmp 24) (.tmp 28) 31 rfl rfl (.agg #[.int .u32 0, .int .i64 0, .int .i64 0, .int .i64 0]) 32 Try.underlying31 info26 rfl (by decide) (by decide) rfl A3 m.length c3 (m.flatMap cR) rfl (viewR hC3) ?aL ?a1 ?a2 ?_; (case aL => exact (reps_flatR m w 0 (fun _ => True)).1); (case a1 => exact cR_one m); (case a2 => omega); intro v5 w5 HS5 HK5)
            gi_roundg (out.length - (i + 1))
            case measure => have := HI.out; omega
            case rel => exact ⟨i + 1, acc ++ m, by go_num, ⟨by have := HI.out; omega⟩, HM', ⟨HK3.out.trans HK5⟩, by
              have h := HS5
              rw [← List.flatMap_append, ← List.length_append] at h
              exact h⟩
          · rw [if_neg hacc] at hm0
            cases hm0
        · obtain rfl : i = out.length := by have := HI.out; omega
          obtain rfl : acc = left := by
            have h := HM.out
            rw [List.drop_eq_nil_of_le (Nat.le_refl _)] at h
            exact Option.some.inj h
          obtain ⟨A9, c9, rfl, hc9, hC9⟩ := Kd.R_reads (Sep.kdR (L := []) HY)
          clear hC9
          have hx0 := HY.cell (L := [_]) 0 _ rfl
          have hx1 := HY.cell (L := [_]) 1 _ rfl
          have hx2 := HY.cell (L := [_]) 2 _ rfl
          have hx3 := HY.cell (L := [_]) 3 _ rfl
          have hx4 := HY.cell (L := [_]) 4 _ rfl
          have hnlt : ¬ ((out.length : Int) < out.length) := Int.lt_irrefl _
          have hll : acc.length < 100000 := by simp at hl3; omega
          unfold restF at HY
          have hc5 := HY.cell (L := [_, _, _, _]) 0 _ rfl
          have hf5 := HY.frozen (L := [_, _, _, _]) 0
          by_cases hdeny : x.f0 = true
          · have hstep : flatS k x out = some acc := by unfold flatS; rw [HL.out]; simp [hdeny]
            rw [hdeny] at hx0
            have hLR : Aside0 (∀ z ∈ acc, RightR z) := ⟨HLR.out⟩
            have hLL : Aside0 (acc.length = acc.length) := ⟨by simp⟩
            by_cases hfull : (acc.length : Int) > 1024
            · have HFU := Aside0.mk hfull
              have hll2 := hLL.out
              have hfb : decide ((1024 : Int) < (acc.length : Int)) = true := decide_eq_true (by omega)
              clear hfull hll2
              have HZ := HY.set (L := [_, _, _, _]) 0 (.slice A9 acc.length c9); have hz5 := HZ.cell (L := [_, _, _, _]) 0 _ rfl; have hzf := HZ.frozen (L := [_, _, _, _, _, _]) 0; have hzc := HZ.cell (L := [_, _, _, _, _, _]) 0 _ rfl; have HZ2 := HZ.set (L := [_, _, _, _, _, _]) 0 (.slice none 0 0); have hyf := HZ2.frozen (L := [_, _, _, _, _]) 0; have hyc := HZ2.cell (L := [_, _, _, _, _]) 0 _ rfl; have HZ3 := HZ2.set (L := [_, _, _, _, _]) 0 (.int .i64 6)
              gi_wp2
              have hrest : ∀ rest, flatL k (List.map Prod.snd (pre ++ [(iv, x)]) ++ rest) [] = some ([], 6) := by
                intro rest
                rw [List.map_append, List.append_assoc]
                refine (HF.out ([x] ++ rest)).trans ?_
                simp only [List.map_cons, List.map_nil, List.singleton_append, flatL]
                rw [Hb.out]
                simp only [Option.bind_some, if_true]
                rw [hstep]
                simp only [Option.bind_some]
                rw [if_pos HFU.out]
              exact ⟨KeepsOthers.from (((HK.out.trans (KeepsOthers.setCell _ _ _)).trans (KeepsOthers.setCell _ _ _)).trans (KeepsOthers.setCell _ _ _)) _, rfl, hrest, _, HZ3.tail.tail.tail⟩
            · have HFU := Aside0.mk hfull
              have hll2 := hLL.out
              have hfb : decide ((1024 : Int) < (acc.length : Int)) = false := decide_eq_false (by omega)
              clear hfull hll2
              have HZ := HY.set (L := [_, _, _, _]) 0 (.slice A9 acc.length c9); have hz5 := HZ.cell (L := [_, _, _, _]) 0 _ rfl; have hzf := HZ.frozen (L := [_, _, _, _, _, _]) 0; have hzc := HZ.cell (L := [_, _, _, _, _, _]) 0 _ rfl; have HZ2 := HZ.set (L := [_, _, _, _, _, _]) 0 (.slice none 0 0); have hyf := HZ2.frozen (L := [_, _, _, _, _]) 0; have hyc := HZ2.cell (L := [_, _, _, _, _]) 0 _ rfl; have HZ3 := HZ2.set (L := [_, _, _, _, _]) 0 (.int .i64 6)
              gi_wp2
              have hrest : ∀ rest, flatL k (List.map Prod.snd (pre ++ [(iv, x)]) ++ rest) [] = flatL k rest acc := by
                intro rest
                rw [List.map_append, List.append_assoc]
                refine (HF.out ([x] ++ rest)).trans ?_
                simp only [List.map_cons, List.map_nil, List.singleton_append, flatL]
                rw [Hb.out]
                simp only [Option.bind_some, if_true]
                rw [hstep]
                simp only [Option.bind_some]
                rw [if_neg (Int.not_lt.2 HFU.out)]
              have hsep := ((HZ.drop (L := [_])).drop (L := [_]))
              have hle : acc.length ≤ 1024 := by have := HFU.out; omega
              refine ⟨KeepsOthers.from (HK.out.trans (KeepsOthers.setCell _ _ _)) _, ⟨below_two HXW.out HZ.below (KeepsOthers.size (HK.out.trans (KeepsOthers.setCell _ _ _))), fun _ => (HZ.var_heap (L := [_, _, _])).2.2⟩, acc, ⟨hle, hLR.out⟩, hrest, .slice A9 acc.length c9, ?_⟩
              exact hsep
          · have hdeny' : x.f0 = false := by simpa using hdeny
            have hstep : flatS k x out = some (acc ++ [x.f1]) := by unfold flatS; rw [HL.out]; simp [hdeny']
            rw [hdeny'] at hx0
            have hLR : Aside0 (∀ z ∈ (acc ++ [x.f1]), RightR z) := ⟨by intro z hz; rcases List.mem_append.1 hz with h | h; exact HLR.out z h; rw [List.mem_singleton.1 h]; exact Hb.out⟩
            have hLL : Aside0 ((acc ++ [x.f1]).length = (acc.length + 1)) := ⟨by simp⟩
            by_cases hfull : ((acc ++ [x.f1]).length : Int) > 1024
            · have HFU := Aside0.mk hfull
              have hll2 := hLL.out
              have hfb : decide ((1024 : Int) < (acc.length : Int) + 1) = true := decide_eq_true (by omega)
              have hfb2 : decide ((1024 : Int) ≤ (acc.length : Int)) = true := decide_eq_true (by omega)
              clear hfull hll2
              gi_wp2_with (gi_at_builtin; refine append_listIn (L := [_]) (F := _ :: _ :: _) (HY.alloc [.int .u32 x.f1.f0.f0, .int .i64 x.f1.f0.f1, .int .i64 x.f1.f1, .int .i64 x.f1.f2] 26) (.tmp 34) (.tmp 37) 31 rfl rfl (.agg #[.int .u32 0, .int .i64 0, .int .i64 0, .int .i64 0]) 32 Try.underlying31 info26 rfl (by decide) (by decide) rfl _ 1 1 [.int .u32 x.f1.f0.f0, .int .i64 x.f1.f0.f1, .int .i64 x.f1.f1, .int .i64 x.f1.f2] rfl ?aV rfl ?a1 ?a2 ?_; (case aV => exact HY.view_new [.int .u32 x.f1.f0.f0, .int .i64 x.f1.f0.f1, .int .i64 x.f1.f1, .int .i64 x.f1.f2] 26 rfl); (case a1 => simp [Value.oneCell']); (case a2 => omega); intro v8 w8 HS8 HK8; obtain ⟨A8, c8, rfl, hc8, hV8⟩ := View.of_row (HS8.row (L := [_])); have hc5 := HS8.cell (L := [_, _, _, _, _]) 0 _ rfl; have hf5 := HS8.frozen (L := [_, _, _, _, _]) 0; have HZ := HS8.set (L := [_, _, _, _, _]) 0 (.slice A8 (acc.length + 1) c8); have hz5 := HZ.cell (L := [_, _, _, _, _]) 0 _ rfl; have hzf := HZ.frozen (L := [_, _, _, _, _, _, _]) 0; have hzc := HZ.cell (L := [_, _, _, _, _, _, _]) 0 _ rfl; have HZ2 := HZ.set (L := [_, _, _, _, _, _, _]) 0 (.slice none 0 0); have hyf := HZ2.frozen (L := [_, _, _, _, _, _]) 0; have hyc := HZ2.cell (L := [_, _, _, _, _, _]) 0 _ rfl; have HZ3 := HZ2.set (L := [_, _, _, _, _, _]) 0 (.int .i64 6))
              have hrest : ∀ rest, flatL k (List.map Prod.snd (pre ++ [(iv, x)]) ++ rest) [] = some ([], 6) := by
                intro rest
                rw [List.map_append, List.append_assoc]
                refine (HF.out ([x] ++ rest)).trans ?_
                simp only [List.map_cons, List.map_nil, List.singleton_append, flatL]
                rw [Hb.out]
                simp only [Option.bind_some, if_true]
                rw [hstep]
                simp only [Option.bind_some]
                rw [if_pos HFU.out]
              exact ⟨KeepsOthers.from (((((HK.out.trans (KeepsOthers.alloc wr (.cells #[.int .u32 x.f1.f0.f0, .int .i64 x.f1.f0.f1, .int .i64 x.f1.f1, .int .i64 x.f1.f2] 26))).trans HK8).trans (KeepsOthers.setCell _ _ _)).trans (KeepsOthers.setCell _ _ _)).trans (KeepsOthers.setCell _ _ _)) _, rfl, hrest, _, HZ3.tail.tail.tail.tail⟩
            · have HFU := Aside0.mk hfull
              have hll2 := hLL.out
              have hfb : decide ((1024 : Int) < (acc.length : Int) + 1) = false := decide_eq_false (by omega)
              have hfb2 : decide ((1024 : Int) ≤ (acc.length : Int)) = false := decide_eq_false (by omega)
              clear hfull hll2
              gi_wp2_with (gi_at_builtin; refine append_listIn (L := [_]) (F := _ :: _ :: _) (HY.alloc [.int .u32 x.f1.f0.f0, .int .i64 x.f1.f0.f1, .int .i64 x.f1.f1, .int .i64 x.f1.f2] 26) (.tmp 34) (.tmp 37) 31 rfl rfl (.agg #[.int .u32 0, .int .i64 0, .int .i64 0, .int .i64 0]) 32 Try.underlying31 info26 rfl (by decide) (by decide) rfl _ 1 1 [.int .u32 x.f1.f0.f0, .int .i64 x.f1.f0.f1, .int .i64 x.f1.f1, .int .i64 x.f1.f2] rfl ?aV rfl ?a1 ?a2 ?_; (case aV => exact HY.view_new [.int .u32 x.f1.f0.f0, .int .i64 x.f1.f0.f1, .int .i64 x.f1.f1, .int .i64 x.f1.f2] 26 rfl); (case a1 => simp [Value.oneCell']); (case a2 => omega); intro v8 w8 HS8 HK8; obtain ⟨A8, c8, rfl, hc8, hV8⟩ := View.of_row (HS8.row (L := [_])); have hc5 := HS8.cell (L := [_, _, _, _, _]) 0 _ rfl; have hf5 := HS8.frozen (L := [_, _, _, _, _]) 0; have HZ := HS8.set (L := [_, _, _, _, _]) 0 (.slice A8 (acc.length + 1) c8); have hz5 := HZ.cell (L := [_, _, _, _, _]) 0 _ rfl; have hzf := HZ.frozen (L := [_, _, _, _, _, _, _]) 0; have hzc := HZ.cell (L := [_, _, _, _, _, _, _]) 0 _ rfl; have HZ2 := HZ.set (L := [_, _, _, _, _, _, _]) 0 (.slice none 0 0); have hyf := HZ2.frozen (L := [_, _, _, _, _, _]) 0; have hyc := HZ2.cell (L := [_, _, _, _, _, _]) 0 _ rfl; have HZ3 := HZ2.set (L := [_, _, _, _, _, _]) 0 (.int .i64 6))
              have hrest : ∀ rest, flatL k (List.map Prod.snd (pre ++ [(iv, x)]) ++ rest) [] = flatL k rest (acc ++ [x.f1]) := by
                intro rest
                rw [List.map_append, List.append_assoc]
                refine (HF.out ([x] ++ rest)).trans ?_
                simp only [List.map_cons, List.map_nil, List.singleton_append, flatL]
                rw [Hb.out]
                simp only [Option.bind_some, if_true]
                rw [hstep]
                simp only [Option.bind_some]
                rw [if_neg (Int.not_lt.2 HFU.out)]
              have hsep := ((HZ.tail.drop (L := [_])).drop (L := [_]))
              have hle : (acc ++ [x.f1]).length ≤ 1024 := by have := HFU.out; omega
              refine ⟨KeepsOthers.from (((HK.out.trans (KeepsOthers.alloc wr (.cells #[.int .u32 x.f1.f0.f0, .int .i64 x.f1.f0.f1, .int .i64 x.f1.f1, .int .i64 x.f1.f2] 26))).trans HK8).trans (KeepsOthers.setCell _ _ _)) _, ⟨below_two HXW.out HZ.below (KeepsOthers.size (((HK.out.trans (KeepsOthers.alloc wr (.cells #[.int .u32 x.f1.f0.f0, .int .i64 x.f1.f0.f1, .int .i64 x.f1.f1, .int .i64 x.f1.f2] 26))).trans HK8).trans (KeepsOthers.setCell _ _ _))), fun _ => (HZ.var_heap (L := [_, _, _, _])).2.2⟩, (acc ++ [x.f1]), ⟨hle, hLR.out⟩, hrest, .slice A8 (acc.length + 1) c8, ?_⟩
              rw [List.flatMap_append, hLL.out]; exact hsep
  case done =>
    rintro D ys W hD rfl ⟨out, v, ⟨ho1, ho2⟩, hf, hS⟩ hK
    have hres : (out, (0 : Int)) = (r1, r2) := by
      have h := hf []
      rw [fromBehind_take l0 l0.length (Nat.le_refl _), List.append_nil, List.take_of_length_le (by simp), H.out] at h
      exact (Option.some.inj h).symm
    cases hres
    clear H hf
    obtain ⟨A9, c9, rfl, hc9, hC9⟩ := Kd.R_reads (Sep.kdR (L := []) hS)
    clear hC9
    unfold restF at hS
    have h4 := hS.cell (L := [_, _]) 0 _ rfl
    have hc2 := hS.cell (L := [_, _, _, _]) 0 _ rfl
    have hf2 := hS.frozen (L := [_, _, _, _]) 0
    have HZ := hS.set (L := [_, _, _, _]) 0 (.slice A9 r1.length c9)
    have hc3 := HZ.cell (L := [_, _, _]) 0 _ rfl
    have hf3 := HZ.frozen (L := [_, _, _]) 0
    have HZ2 := HZ.set (L := [_, _, _]) 0 (.int .i64 0)
    gi_wp2
    refine ⟨by simp, .inl ⟨_, _, rfl, run_takeDeferred (((KeepsOthers.setCell _ _ _).trans (KeepsOthers.setCell _ _ _)).same D _ hK rfl), ?_⟩⟩
    have HZ3 := HZ2.grown (grownBy_putObj' _ D (.deferred none)) (fun j e => by cases e; exact ⟨by omega, _, ((KeepsOthers.setCell _ _ _).trans (KeepsOthers.setCell _ _ _)).same D _ hK rfl, rfl⟩)
    have ha := HZ3.cell (L := [_, _, _, _]) 0 _ rfl
    have hb := HZ3.cell (L := [_, _, _]) 0 _ rfl
    refine ⟨.tuple #[.slice A9 r1.length c9, .int .i64 0], ?_, _, rfl, Sep.kdR (L := []) HZ3, HZ3.below⟩
    rw [results_cell2 rfl]
    go_simp
  case stop =>
    rintro D c pre W hD ⟨d, hd, rfl⟩ ⟨rfl, hrest, v, hS⟩ hK
    have hres : (([] : List S26), (6 : Int)) = (r1, r2) := by
      have h := hrest (l0.reverse.drop d)
      rw [fromBehind_take l0 d hd, List.take_append_drop, H.out] at h
      exact (Option.some.inj h).symm
    cases hres
    clear H hrest
    unfold restF at hS
    gi_wp2
    refine ⟨by simp, .inl ⟨_, _, rfl, run_takeDeferred hK, ?_⟩⟩
    have HZ := hS.grown (grownBy_putObj' W D (.deferred none)) (fun j e => by cases e; exact ⟨by omega, _, hK, rfl⟩)
    have ha := HZ.cell (L := [_, _, _]) 0 _ rfl
    have hb := HZ.cell (L := [_, _]) 0 _ rfl
    refine ⟨.tuple #[.slice none 0 0, .int .i64 6], ?_, _, rfl, Kd.R_nil _ _ _ _ _, HZ.below⟩
    rw [results_cell2 rfl]
    go_simp
end


end Go.Proofs.Ytgljfjjainlhgaa.PPfxFlat
