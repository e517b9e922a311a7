/- For every input the Go function dragoman/dragomanlaw27.PeerMeet returns true, and its arguments read behind the call as they read before. No conditions. -/
import Derived.Test.YtbdejnnbpdgjlaaRows
import Derived.Test.YtbdejnnbpdgjlaaPeerXP31
import Derived.Test.YtbdejnnbpdgjlaaPeerXP30
import Derived.WalkKit
import Derived.ProofKit
import Derived.OpenShut
import Derived.ShutString
import Derived.ChangeOld
import Derived.Below
import Derived.SizedLaws
namespace Go.Proofs.Ytbdejnnbpdgjlaa.peerMeet
open Go.ChangeShapes Go.WideShapes Go.ChangeAt Go.RowKit Go.Proofs.Ytbdejnnbpdgjlaa.Ax
open Go.ChangeMaps (open_string shut_string)
set_option linter.unusedVariables false
set_option linter.unusedSimpArgs false
theorem own : ownKnob Try.prog.godebug = none := by kernel_rfl
theorem laidOut : laidOutB Try.prog = true := by kernel_rfl
set_option maxRecDepth 100000 in
theorem lifted (os : Os) (started : os.Started) (H : Type) (enc : TypeId × Value → H) :
  ReturnsInHanded {} Try.checked os 10 .any (Rows.peerMeetSpec.pre6 enc Try.prog Try.f10 Rows.peerMeetRow.domain false) (Rows.peerMeetSpec.post enc Try.prog Try.f10 false true false false) := by
 refine returnsInHanded_of_change_sized (C := Try.checked) own started (by kernel_rfl) Try.func10
  (ChangeSpec.witness6 (enc := enc) (C := Try.checked) false ⟨#[], #[(.agg #[(.int .u32 0), (.int .u32 0), (.int .i64 0), (.int .u32 0)]), (.agg #[(.int .u32 0), (.int .u32 0), (.int .i64 0), (.int .u32 0)]), (.int .u8 0)], []⟩ 8 (by kernel_rfl) (by kernel_rfl) (by kernel_rfl) (by kernel_rfl)) ?_
 intro W base args ds gs before hval0 hW hcnd hsz0 _
 have hval : ∀ (j : Nat) t v, Try.f10.params[j]? = some t → args[j]? = some v → Value.okWide Try.prog W .any base t v := hval0
 have hW' := hW
 obtain ⟨p, q, hA0, hV, rfl, hfz, hnd⟩ := hW
 have hA : DataW.TrodAll enc Try.prog W 0 (fun _ => true) true Try.f10.params.toList args.toList ds p := hA0
 rw [Try.params10] at hA hval
 obtain ⟨v0, vs0, d0, ds0, p0, q0, hargs, rfl, rfl, h0, r0⟩ := trodAll_cons hA
 obtain ⟨v1, vs1, d1, ds1, p1, q1, rfl, rfl, rfl, h1, r1⟩ := trodAll_cons r0
 obtain ⟨v2, vs2, d2, ds2, p2, q2, rfl, rfl, rfl, h2, r2⟩ := trodAll_cons r1
 obtain ⟨rfl, rfl, rfl⟩ := trodAll_nil r2
 obtain rfl : args = #[v0, v1, v2] := by cases args; simp_all
 obtain ⟨rfl, rfl⟩ := trodVars_none hV
 obtain ⟨N0, hN0⟩ : ∃ N0 : Ax.Base, N0 = ⟨W.heap.size, W.heap.size⟩ := ⟨_, rfl⟩
 have hN : N0.n = W.heap.size := by rw [hN0]
 have m0 : MRel (fun _ => none) N0 [] W := MRel.none N0 W (by omega)
 have k0 := h0
 have lt0 : ∀ x ∈ p0, x.block < W.heap.size := by obtain ⟨m, hm⟩ := k0; exact DataW.trod_lt m _ _ _ hm
 obtain ⟨⟨cs0⟩, rfl, _⟩ := okWide_struct Try.underlying70 (hval 0 70 v0 rfl rfl)
 obtain ⟨fuel0, hf0⟩ := h0
 obtain ⟨ι0, X0, acs0, i0, m1, l0, K0⟩ := (rd70 W) H enc _ _ _ _ _ hf0 (fun _ => none) N0 [] hN m0
 have k1 := h1
 have lt1 : ∀ x ∈ p1, x.block < W.heap.size := by obtain ⟨m, hm⟩ := k1; exact DataW.trod_lt m _ _ _ hm
 obtain ⟨⟨cs1⟩, rfl, _⟩ := okWide_struct Try.underlying70 (hval 1 70 v1 rfl rfl)
 obtain ⟨fuel1, hf1⟩ := h1
 obtain ⟨ι1, X1, acs1, i1, m2, l1, K1⟩ := (rd70 W) H enc _ _ _ _ _ hf1 ι0 N0 ([] ++ X0) hN m1
 have k2 := h2
 have lt2 : ∀ x ∈ p2, x.block < W.heap.size := by obtain ⟨m, hm⟩ := k2; exact DataW.trod_lt m _ _ _ hm
 obtain ⟨n2, rfl⟩ := okWide_int Try.underlying5 (hval 2 5 v2 rfl rfl)
 obtain ⟨fuel2, hf2⟩ := h2
 obtain ⟨ι2, X2, acs2, i2, m3, l2, K2⟩ := (rd_int Try.underlying5) H enc _ _ _ _ _ hf2 ι1 N0 (([] ++ X0) ++ X1) hN m2
 obtain ⟨u2, hu2⟩ : ∃ u, acs2 = [u] := by obtain ⟨y, hy⟩ := K2; first | (obtain ⟨_, e, _⟩ := hy; exact ⟨_, e⟩) | (obtain ⟨_, e⟩ := hy; exact ⟨_, e⟩) | exact ⟨_, hy⟩
 subst hu2
 have hP := peerMeet_in ((([] ++ X0) ++ X1) ++ X2) (.agg ⟨acs0⟩) (.agg ⟨acs1⟩) u2 (⟨acs0, rfl, (KAll.keeps keeps70 _ X2 _ (KAll.keeps keeps70 _ X1 _ K0))⟩) (⟨acs1, rfl, (KAll.keeps keeps70 _ X2 _ K1)⟩) (K2)
 refine (hP.2 ι2 N0 _ W m3 (LRel.cons _ _ _ _ (VRel.agg _ _ (l0.mono (fun b l h => i2 b l (i1 b l (h))))) (LRel.cons _ _ _ _ (VRel.agg _ _ (l1.mono (fun b l h => i2 b l (h)))) (LRel.cons _ _ _ _ ((LRel.single l2).mono (fun b l h => h)) LRel.nil)))).mono ?_
 rintro e W' ⟨v, v', M', ι', rfl, hv, hm', hx, rfl⟩
 cases hv
 have bel : Below W.heap.size W W' := by have := hx.below.low; rwa [hN] at this
 exact ⟨_, rfl, _, _, _, [], _, [], hW', trodAll_mk1 (shut_bool Try.underlying4 _), (trodAll_cons_mk (Below.trod laidOut (by kernel_rfl) (of_decide_eq_true (by kernel_rfl)) k0 bel lt0) (trodAll_cons_mk (Below.trod laidOut (by kernel_rfl) (of_decide_eq_true (by kernel_rfl)) k1 bel lt1) (trodAll_cons_mk (Below.trod laidOut (by kernel_rfl) (of_decide_eq_true (by kernel_rfl)) k2 bel lt2) trodAll_mk0))), rfl, bel.frame _, fun h => by cases h⟩
theorem over : Rows.peerMeetRow.holds Try.pinned (OpenSpec.ofChange Rows.peerMeetSpec) :=
 OpenClaim.holds_of_wide 10 Try.f10 rfl rfl rfl rfl rfl rfl rfl ⟨rfl, rfl, rfl, rfl, rfl⟩ rfl rfl rfl rfl rfl (by kernel_rfl) Try.func10 (by kernel_rfl)
  (of_decide_eq_true (by kernel_rfl)) (by unfold Func.isWrapper; first | (rw [if_pos (by decide +kernel)]; kernel_rfl) | (rw [if_neg (by decide +kernel)]; exact ⟨rfl, rfl⟩))
  (fun os started H enc _ => lifted os started H enc)
theorem proved : Rows.PeerMeetSaid := over
#print axioms proved
end Go.Proofs.Ytbdejnnbpdgjlaa.peerMeet
namespace Go.Proofs.Ytbdejnnbpdgjlaa
theorem peerMeet_holds : Rows.PeerMeetSaid := peerMeet.proved
end Go.Proofs.Ytbdejnnbpdgjlaa
