/- Contracts of functions over the abstract machine. No conditions: lemmas alone. -/
import Derived.Test.YtbjipdmbdabniaaAttrUnknownLibD
import Derived.Test.YtbjipdmbdabniaaAttrUnknownAw1
import Derived.Test.YtbjipdmbdabniaaAttrUnknownRd
import Derived.Test.YtbjipdmbdabniaaAttrUnknownIn
namespace Go.Proofs.Ytbjipdmbdabniaa.Ax
open Go Go.RowKit
set_option linter.unusedVariables false
set_option linter.unusedSimpArgs false
set_option maxRecDepth 100000
set_option maxHeartbeats 20000000
attribute [local irreducible] thenA blockA scopeA retA AL AW AD ADL AH clrK CallA apure aload bload appK ptrK fnK ares szOk planOk okOps
/-- An append to nothing. -/
theorem app0 {M : Mem} {v : Value} {xs : List Int} {C : Value → Mem → Prop} (hv : Sl M v 1 (ints .u8 xs)) (hl : xs.length ≤ 1000000) (h : ∀ v' M', New M M' v' 1 (ints .u8 xs) → Fr M M' [] → C v' M') : appK Try.prog 22 22 (.slice (some ⟨M.length, 0, none⟩) 0 0) v (M ++ [.row true 1 []]) C := by
  have r0 := New.row M (s := 1) (n := 0) (cs := []) (by omega) rfl rfl (by decide)
  refine appK.ints (P := Try.prog) (e := 5) (bt := 1) (z := .int .u8 0) (by kernel_rfl) (by kernel_rfl) (by kernel_rfl) (by kernel_rfl) (by decide) (xs := []) r0.1 (hv.keep (Fr.push M (.row true 1 [])) (by simp)) (by simp; omega) ?_
  intro v' M' hN hF
  rw [List.nil_append] at hN
  exact h v' M' (hN.after (Fr.push M (.row true 1 []))) ((Fr.push M (.row true 1 [])).tr hF)
theorem app1 {M M1 : Mem} {v w : Value} {xs ys : List Int} {C : Value → Mem → Prop} (hN : New M M1 v 1 (ints .u8 xs)) (hF : Fr M M1 []) (hw : Sl M1 w 1 (ints .u8 ys)) (hl : xs.length + ys.length ≤ 1000000) (h : ∀ v' M', New M M' v' 1 (ints .u8 (xs ++ ys)) → Fr M M' [] → C v' M') : appK Try.prog 22 22 v w M1 C := by
  refine appK.ints (P := Try.prog) (e := 5) (bt := 1) (z := .int .u8 0) (by kernel_rfl) (by kernel_rfl) (by kernel_rfl) (by kernel_rfl) (by decide) hN.1 hw (by omega) ?_
  intro v' M' hN2 hF2
  exact h v' M' (hN2.after hF) (hF.new hN hF2)
theorem New.lit2 (M : Mem) (n : Nat) (xs : List Int) (h : n = xs.length) (hn : n < capLow) : New M (M ++ [.row true 1 (ints .u8 xs)]) (.slice (some ⟨M.length, 0, none⟩) n n) 1 (ints .u8 xs) := New.row M (by omega) (by rw [ints_length]; omega) (ints_one _ _) hn
end Go.Proofs.Ytbjipdmbdabniaa.Ax
