/- For every input the Go function dragoman/dragomanlaw04.PfxFlat returns true, and its arguments read behind the call as they read before. No conditions. -/
import Derived.Test.YtgljfjjainlhgaaRows
import Derived.Test.YtgljfjjainlhgaaPurePfxFlat
import Derived.Test.YtgljfjjainlhgaaRowLib
import Derived.WalkKit
import Derived.ProofKit
import Derived.OpenShut
import Derived.ShutString
import Derived.ChangeOld
import Derived.Below
import Derived.SizedLaws
namespace Go.Proofs.Ytgljfjjainlhgaa.pfxFlat
open Go.ChangeShapes Go.WideShapes Go.ChangeAt Go.RowKit Go.Proofs.Ytgljfjjainlhgaa.PPfxFlat Go.Proofs.Ytgljfjjainlhgaa.RowLib Go.Proofs.YtgljfjjainlhgaaW.PrintWords
open Go.ChangeMaps (open_string shut_string)
set_option linter.unusedVariables false
set_option linter.unusedSimpArgs false
theorem own : ownKnob Try.prog.godebug = none := by kernel_rfl
theorem laidOut : laidOutB Try.prog = true := by kernel_rfl
theorem op4 (W : World) : Opens Try.prog W 4 Kd.bool good4 := opens_bool Try.underlying4
theorem op22 (W : World) : Opens Try.prog W 22 (Kd.int .u32) good22 := opens_int Try.underlying22
theorem op3 (W : World) : Opens Try.prog W 3 (Kd.int .i64) good3 := opens_int Try.underlying3
theorem op24 (W : World) : Opens Try.prog W 24 k24 good24 := by
  intro H enc base spare held n cs x h
  obtain ⟨xs, m, _, _, hlen, hxl, hf⟩ := DataW.trod_struct Try.underlying24 h
  have hlen : cs.length = 2 := hlen.trans (by kernel_rfl)
  have h00 : ∃ x, DataW.trod enc Try.prog W base spare held m 22 ((cs.drop 0).take (Try.prog.cellsOf 22)) = some x := field_some hxl hf 0 _ rfl (by decide)
  obtain ⟨x0, h0⟩ := h00
  obtain ⟨y0, k0, g0⟩ := op22 W H enc base spare held m _ _ h0
  have e0 : Try.prog.cellsOf 22 = 1 := by kernel_rfl
  rw [e0] at k0
  have h10 : ∃ x, DataW.trod enc Try.prog W base spare held m 3 ((cs.drop 1).take (Try.prog.cellsOf 3)) = some x := field_some hxl hf 1 _ rfl (by decide)
  obtain ⟨x1, h1⟩ := h10
  obtain ⟨y1, k1, g1⟩ := op3 W H enc base spare held m _ _ h1
  have e1 : Try.prog.cellsOf 3 = 1 := by kernel_rfl
  rw [e1] at k1
  have e : cs = (cs.drop 0).take 1 ++ ((cs.drop 1).take 1) := by
    have := last_at cs 1 1 hlen
    rw [← this]
    rw [← split_at cs 0 1]
    rfl
  refine ⟨⟨y0, y1⟩, ?_, ⟨g0, g1⟩⟩
  rw [e]
  exact ⟨_, _, rfl, k0, k1⟩
theorem op26 (W : World) : Opens Try.prog W 26 k26 good26 := by
  intro H enc base spare held n cs x h
  obtain ⟨xs, m, _, _, hlen, hxl, hf⟩ := DataW.trod_struct Try.underlying26 h
  have hlen : cs.length = 4 := hlen.trans (by kernel_rfl)
  have h00 : ∃ x, DataW.trod enc Try.prog W base spare held m 24 ((cs.drop 0).take (Try.prog.cellsOf 24)) = some x := field_some hxl hf 0 _ rfl (by decide)
  obtain ⟨x0, h0⟩ := h00
  obtain ⟨y0, k0, g0⟩ := op24 W H enc base spare held m _ _ h0
  have e0 : Try.prog.cellsOf 24 = 2 := by kernel_rfl
  rw [e0] at k0
  have h10 : ∃ x, DataW.trod enc Try.prog W base spare held m 3 ((cs.drop 2).take (Try.prog.cellsOf 3)) = some x := field_some hxl hf 1 _ rfl (by decide)
  obtain ⟨x1, h1⟩ := h10
  obtain ⟨y1, k1, g1⟩ := op3 W H enc base spare held m _ _ h1
  have e1 : Try.prog.cellsOf 3 = 1 := by kernel_rfl
  rw [e1] at k1
  have h20 : ∃ x, DataW.trod enc Try.prog W base spare held m 3 ((cs.drop 3).take (Try.prog.cellsOf 3)) = some x := field_some hxl hf 2 _ rfl (by decide)
  obtain ⟨x2, h2⟩ := h20
  obtain ⟨y2, k2, g2⟩ := op3 W H enc base spare held m _ _ h2
  have e2 : Try.prog.cellsOf 3 = 1 := by kernel_rfl
  rw [e2] at k2
  have e : cs = (cs.drop 0).take 2 ++ ((cs.drop 2).take 1 ++ ((cs.drop 3).take 1)) := by
    have := last_at cs 3 1 hlen
    rw [← this]
    rw [← split_at cs 2 1]
    rw [← split_at cs 0 2]
    rfl
  refine ⟨⟨y0, y1, y2⟩, ?_, ⟨g0, g1, g2⟩⟩
  rw [e]
  exact ⟨_, _, rfl, k0, ⟨_, _, rfl, k1, k2⟩⟩
theorem op41 (W : World) : Opens Try.prog W 41 k41 good41 := by
  intro H enc base spare held n cs x h
  obtain ⟨xs, m, _, _, hlen, hxl, hf⟩ := DataW.trod_struct Try.underlying41 h
  have hlen : cs.length = 5 := hlen.trans (by kernel_rfl)
  have h00 : ∃ x, DataW.trod enc Try.prog W base spare held m 4 ((cs.drop 0).take (Try.prog.cellsOf 4)) = some x := field_some hxl hf 0 _ rfl (by decide)
  obtain ⟨x0, h0⟩ := h00
  obtain ⟨y0, k0, g0⟩ := op4 W H enc base spare held m _ _ h0
  have e0 : Try.prog.cellsOf 4 = 1 := by kernel_rfl
  rw [e0] at k0
  have h10 : ∃ x, DataW.trod enc Try.prog W base spare held m 26 ((cs.drop 1).take (Try.prog.cellsOf 26)) = some x := field_some hxl hf 1 _ rfl (by decide)
  obtain ⟨x1, h1⟩ := h10
  obtain ⟨y1, k1, g1⟩ := op26 W H enc base spare held m _ _ h1
  have e1 : Try.prog.cellsOf 26 = 4 := by kernel_rfl
  rw [e1] at k1
  have e : cs = (cs.drop 0).take 1 ++ ((cs.drop 1).take 4) := by
    have := last_at cs 1 4 hlen
    rw [← this]
    rw [← split_at cs 0 1]
    rfl
  refine ⟨⟨y0, y1⟩, ?_, ⟨g0, g1⟩⟩
  rw [e]
  exact ⟨_, _, rfl, k0, k1⟩
theorem op34 (W : World) : Opens Try.prog W 34 (Kd.slice 41 k41) good34 := opens_slice Try.underlying34 (by kernel_rfl) (op41 W)
set_option maxRecDepth 100000 in
theorem lifted (os : Os) (started : os.Started) (H : Type) (enc : TypeId × Value → H) :
    ReturnsInHanded {} Try.checked os 4 .any (Rows.pfxFlatSpec.pre6 enc Try.prog Try.f4 Rows.pfxFlatRow.domain false) (Rows.pfxFlatSpec.post enc Try.prog Try.f4 false true false false) := by
  refine returnsInHanded_of_change_sized (C := Try.checked) own started (by kernel_rfl) Try.func4
    (ChangeSpec.witness6 (enc := enc) (C := Try.checked) false ⟨#[], #[(.slice none 0 0)], []⟩ 8 (by kernel_rfl) (by kernel_rfl) (by kernel_rfl) (by kernel_rfl)) ?_
  intro W base args ds gs before hval0 hW hcnd hsz0 _
  have hval : ∀ (j : Nat) t v, Try.f4.params[j]? = some t → args[j]? = some v → Value.okWide Try.prog W .any base t v := hval0
  have hW' := hW
  obtain ⟨p, q, hA0, hV, rfl, hfz, hnd⟩ := hW
  have hA : DataW.TrodAll enc Try.prog W 0 (fun _ => true) true Try.f4.params.toList args.toList ds p := hA0
  rw [Try.params4] at hA hval
  obtain ⟨v0, vs0, d0, ds0, p0, q0, hargs, rfl, rfl, h0, r0⟩ := trodAll_cons hA
  obtain ⟨rfl, rfl, rfl⟩ := trodAll_nil r0
  obtain rfl : args = #[v0] := by cases args; simp_all
  obtain ⟨rfl, rfl⟩ := trodVars_none hV
  have k0 := h0
  have lt0 : ∀ x ∈ p0, x.block < W.heap.size := by obtain ⟨m, hm⟩ := k0; exact DataW.trod_lt m _ _ _ hm
  obtain ⟨a0, len0, cap0, rfl⟩ := okWide_slice Try.underlying34 (hval 0 34 v0 rfl rfl)
  obtain ⟨fuel0, hf0⟩ := h0
  obtain ⟨x0, hK0, hG0⟩ := op34 W H enc _ _ _ _ _ _ hf0
  obtain ⟨A0, c0, hc0, hl0, hr0⟩ := hK0
  obtain ⟨rfl, rfl, rfl⟩ := slice_value (A := A0) (n := x0.length) (c := c0) (a := 0) (len := len0) (cap := cap0) (v := .nilFunc) hc0
  obtain ⟨k, hP⟩ := Pure.PfxFlat x0 hG0
  refine (dragomanlaw04_PfxFlat.calls k _ _ x0 true W hr0 hl0 hP).mono ?_
  rintro e W' ⟨rfl, hd⟩
  have bel : Below W.heap.size W W' := hd
  exact ⟨_, rfl, _, _, _, [], _, [], hW', trodAll_mk1 (shut_bool Try.underlying4 _), (trodAll_cons_mk (Below.trod laidOut (by kernel_rfl) (of_decide_eq_true (by kernel_rfl)) k0 bel lt0) trodAll_mk0), rfl, bel.frame _, fun h => by cases h⟩
theorem over : Rows.pfxFlatRow.holds Try.pinned (OpenSpec.ofChange Rows.pfxFlatSpec) :=
  OpenClaim.holds_of_wide 4 Try.f4 rfl rfl rfl rfl rfl rfl rfl ⟨rfl, rfl, rfl, rfl, rfl⟩ rfl rfl rfl rfl rfl (by kernel_rfl) Try.func4 (by kernel_rfl)
    (of_decide_eq_true (by kernel_rfl)) (by unfold Func.isWrapper; first | (rw [if_pos (by decide +kernel)]; kernel_rfl) | (rw [if_neg (by decide +kernel)]; exact ⟨rfl, rfl⟩))
    (fun os started H enc _ => lifted os started H enc)
theorem proved : Rows.PfxFlatSaid := over
#print axioms proved
end Go.Proofs.Ytgljfjjainlhgaa.pfxFlat
namespace Go.Proofs.Ytgljfjjainlhgaa
/-- The row, under a short name, for the claim. -/
theorem pfxFlat_holds : Rows.PfxFlatSaid := pfxFlat.proved
end Go.Proofs.Ytgljfjjainlhgaa
