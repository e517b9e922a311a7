/- For every input the Go function dragoman/dragomanlaw27.PeerTurns returns true, and its arguments read behind the call as they read before. No conditions. -/
import Derived.Test.YtbdejnnbpdgjlaaRows
import Derived.Test.YtbdejnnbpdgjlaaPeerXP32
import Derived.Test.YtbdejnnbpdgjlaaPeerXP30
import Derived.WalkKit
import Derived.ProofKit
import Derived.OpenShut
import Derived.ShutString
import Derived.ChangeOld
import Derived.Below
import Derived.SizedLaws
namespace Go.Proofs.Ytbdejnnbpdgjlaa.peerTurns
open Go.ChangeShapes Go.WideShapes Go.ChangeAt Go.RowKit Go.Proofs.Ytbdejnnbpdgjlaa.Ax
open Go.ChangeMaps (open_string shut_string)
set_option linter.unusedVariables false
set_option linter.unusedSimpArgs false
theorem own : ownKnob Try.prog.godebug = none := by kernel_rfl
theorem laidOut : laidOutB Try.prog = true := by kernel_rfl
set_option maxRecDepth 100000 in
theorem lifted (os : Os) (started : os.Started) (H : Type) (enc : TypeId × Value → H) :
  ReturnsInHanded {} Try.checked os 11 .any (Rows.peerTurnsSpec.pre6 enc Try.prog Try.f11 Rows.peerTurnsRow.domain false) (Rows.peerTurnsSpec.post enc Try.prog Try.f11 false true false false) := by
 refine returnsInHanded_of_change_sized (C := Try.checked) own started (by kernel_rfl) Try.func11
  (ChangeSpec.witness6 (enc := enc) (C := Try.checked) false ⟨#[], #[(.agg #[(.int .u32 0), (.int .u32 0), (.int .i64 0), (.int .u32 0)]), (.slice none 0 0)], []⟩ 8 (by kernel_rfl) (by kernel_rfl) (by kernel_rfl) (by kernel_rfl)) ?_
 intro W base args ds gs before hval0 hW hcnd hsz0 _
 have hval : ∀ (j : Nat) t v, Try.f11.params[j]? = some t → args[j]? = some v → Value.okWide Try.prog W .any base t v := hval0
 have hW' := hW
 obtain ⟨p, q, hA0, hV, rfl, hfz, hnd⟩ := hW
 have hA : DataW.TrodAll enc Try.prog W 0 (fun _ => true) true Try.f11.params.toList args.toList ds p := hA0
 rw [Try.params11] at hA hval
 obtain ⟨v0, vs0, d0, ds0, p0, q0, hargs, rfl, rfl, h0, r0⟩ := trodAll_cons hA
 obtain ⟨v1, vs1, d1, ds1, p1, q1, rfl, rfl, rfl, h1, r1⟩ := trodAll_cons r0
 obtain ⟨rfl, rfl, rfl⟩ := trodAll_nil r1
 obtain rfl : args = #[v0, v1] := by cases args; simp_all
 obtain ⟨rfl, rfl⟩ := trodVars_none hV
 obtain ⟨N0, hN0⟩ : ∃ N0 : Ax.Base, N0 = ⟨W.heap.size, W.heap.size⟩ := ⟨_, rfl⟩
 have hN : N0.n = W.heap.size := by rw [hN0]
 have m0 : MRel (fun _ => none) N0 [] W := MRel.none N0 W (by omega)
 have k0 := h0
 have lt0 : ∀ x ∈ p0, x.block < W.heap.size := by obtain ⟨m, hm⟩ := k0; exact DataW.trod_lt m _ _ _ hm
 obtain ⟨⟨cs0⟩, rfl, _⟩ := okWide_struct Try.underlying70 (hval 0 70 v0 rfl rfl)
 obtain ⟨fuel0, hf0⟩ := h0
 obtain ⟨ι0, X0, acs0, i0, m1, l0, K0⟩ := (rd70 W) H enc _ _ _ _ _ hf0 (fun _ => none) N0 [] hN m0
 have k1 := h1
 have lt1 : ∀ x ∈ p1, x.block < W.heap.size := by obtain ⟨m, hm⟩ := k1; exact DataW.trod_lt m _ _ _ hm
 obtain ⟨a1, len1, cap1, rfl⟩ := okWide_slice Try.underlying96 (hval 1 96 v1 rfl rfl)
 obtain ⟨fuel1, hf1⟩ := h1
 obtain ⟨ι1, X1, acs1, i1, m2, l1, K1⟩ := (rd_el (e := 98) (by kernel_rfl) (by kernel_rfl) (by decide) (KAll.keeps keeps98) (KAll.cells_cons (KInt.cells _) (KAll.cells_cons (KInt.cells _) (KAll.cells_cons (KInt.cells _) (KAll.cells_cons (KInt.cells _) (KAll.cells_cons (KSl.cells _) KAll.cells_nil))))) (rd98 W)) H enc _ _ _ _ _ hf1 ι0 N0 ([] ++ X0) hN m1
 obtain ⟨u1, hu1⟩ : ∃ u, acs1 = [u] := by obtain ⟨y, hy⟩ := K1; first | (obtain ⟨_, e, _⟩ := hy; exact ⟨_, e⟩) | (obtain ⟨_, e⟩ := hy; exact ⟨_, e⟩) | exact ⟨_, hy⟩
 subst hu1
 have hP := peerTurns_in (([] ++ X0) ++ X1) (.agg ⟨acs0⟩) u1 (⟨acs0, rfl, (KAll.keeps keeps70 _ X1 _ K0)⟩) (K1)
 refine (hP.2 ι1 N0 _ W m2 (LRel.cons _ _ _ _ (VRel.agg _ _ (l0.mono (fun b l h => i1 b l (h)))) (LRel.cons _ _ _ _ ((LRel.single l1).mono (fun b l h => h)) LRel.nil))).mono ?_
 rintro e W' ⟨v, v', M', ι', rfl, hv, hm', hx, rfl⟩
 cases hv
 have bel : Below W.heap.size W W' := by have := hx.below.low; rwa [hN] at this
 exact ⟨_, rfl, _, _, _, [], _, [], hW', trodAll_mk1 (shut_bool Try.underlying4 _), (trodAll_cons_mk (Below.trod laidOut (by kernel_rfl) (of_decide_eq_true (by kernel_rfl)) k0 bel lt0) (trodAll_cons_mk (Below.trod laidOut (by kernel_rfl) (of_decide_eq_true (by kernel_rfl)) k1 bel lt1) trodAll_mk0)), rfl, bel.frame _, fun h => by cases h⟩
theorem over : Rows.peerTurnsRow.holds Try.pinned (OpenSpec.ofChange Rows.peerTurnsSpec) :=
 OpenClaim.holds_of_wide 11 Try.f11 rfl rfl rfl rfl rfl rfl rfl ⟨rfl, rfl, rfl, rfl, rfl⟩ rfl rfl rfl rfl rfl (by kernel_rfl) Try.func11 (by kernel_rfl)
  (of_decide_eq_true (by kernel_rfl)) (by unfold Func.isWrapper; first | (rw [if_pos (by decide +kernel)]; kernel_rfl) | (rw [if_neg (by decide +kernel)]; exact ⟨rfl, rfl⟩))
  (fun os started H enc _ => lifted os started H enc)
theorem proved : Rows.PeerTurnsSaid := over
#print axioms proved
end Go.Proofs.Ytbdejnnbpdgjlaa.peerTurns
namespace Go.Proofs.Ytbdejnnbpdgjlaa
theorem peerTurns_holds : Rows.PeerTurnsSaid := peerTurns.proved
end Go.Proofs.Ytbdejnnbpdgjlaa
