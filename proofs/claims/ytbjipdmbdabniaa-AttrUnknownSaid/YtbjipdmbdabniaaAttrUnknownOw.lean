/- Contracts of functions over the abstract machine. No conditions: lemmas alone. -/
import Derived.Test.YtbjipdmbdabniaaAttrUnknownLibD
import Derived.Test.YtbjipdmbdabniaaAttrUnknownAt0
namespace Go.Proofs.Ytbjipdmbdabniaa.Ax
open Go Go.RowKit
set_option linter.unusedVariables false
set_option linter.unusedSimpArgs false
set_option maxRecDepth 100000
set_option maxHeartbeats 20000000
/-! rows of numbers of our own, written to -/
theorem Own.openI {M : Mem} {v : Value} {k : IntKind} {xs : List Int} (h : Own M v 1 (ints k xs)) (hne : xs ≠ []) : ∃ b off c pre, v = .slice (some ⟨b, off, none⟩) xs.length c ∧ M[b]? = some (.row true 1 (pre ++ ints k xs)) ∧ pre.length = off ∧ c ≠ 0 ∧ xs.length ≤ capLb c := by
  have hp := List.length_pos_iff.2 hne
  have hl := h.sl.len
  rw [ints_length] at hl
  rcases h.own with rfl | ⟨a, rfl⟩ | ⟨b, off, n, c, cc, rfl, hc, hb, hend⟩
  · simp [sln] at hl; omega
  · simp [sln] at hl; omega
  · have hn : n = xs.length := by simpa [sln] using hl
    subst hn
    have hg := h.get hb hend
    rw [ints_length] at hend
    refine ⟨b, off, c, cc.take off, rfl, ?_, by rw [List.length_take]; omega, hc, ?_⟩
    · rw [← hg, List.take_append_drop]; exact hb
    · rcases h.sl.base with he | ⟨b', off', n', c', he, _, hcap⟩
      · cases he
      · cases he; exact hcap
theorem splI {k : IntKind} {pre : List Value} {xs : List Int} {off i : Nat} (hp : pre.length = off) (hi : i < xs.length) (y : Int) : spl (pre ++ ints k xs) (off + i) [.int k y] = pre ++ ints k (xs.set i y) := by
  unfold spl
  subst hp
  have e1 : (pre ++ ints k xs).take (pre.length + i) = pre ++ (ints k xs).take i := by rw [List.take_append, List.take_of_length_le (by omega)]; congr 2; omega
  have e2 : (pre ++ ints k xs).drop (pre.length + i + 1) = (ints k xs).drop (i + 1) := by rw [List.drop_append, List.drop_of_length_le (by omega), List.nil_append]; congr 1; omega
  rw [show [Value.int k y].length = 1 from rfl, e1, e2, List.append_assoc, List.append_assoc]
  congr 1
  unfold ints
  rw [List.map_set, List.set_eq_take_append_cons_drop, if_pos (by simpa using hi)]
  rfl
theorem ownI {M : Mem} {k : IntKind} {xs : List Int} {b off c : Nat} {pre : List Value} (hb : M[b]? = some (.row true 1 (pre ++ ints k xs))) (hp : pre.length = off) (hc : c ≠ 0) (hcap : xs.length ≤ capLb c) : Own M (.slice (some ⟨b, off, none⟩) xs.length c) 1 (ints k xs) := by
  have hl : xs.length * 1 = (ints k xs).length := by rw [ints_length]; omega
  refine ⟨⟨.inr ⟨b, off, _, c, rfl, (List.getElem?_eq_some_iff.1 hb).1, hcap⟩, hl, ⟨by omega, fun a n c' B hv _ hB => ?_⟩, ints_one _ _, fun _ => ?_⟩, .inr (.inr ⟨b, off, _, c, _, rfl, hc, hb, by rw [List.length_append, hp]⟩)⟩
  · cases hv
    rw [hb] at hB
    cases hB; rfl
  · show cellsM M b off _ = _
    unfold cellsM
    rw [hb, Option.bind_some]
    rw [if_pos (show off + (ints k xs).length ≤ (Blk.row true 1 (pre ++ ints k xs)).cells.length by show _ ≤ (pre ++ ints k xs).length; rw [List.length_append]; omega)]
    show some (((pre ++ ints k xs).drop off).take (ints k xs).length) = _
    rw [← hp, List.drop_left, List.take_length]
theorem roomI {k : IntKind} {pre : List Value} {xs : List Int} {off i : Nat} (hp : pre.length = off) (hi : i < xs.length) : off + i + 1 ≤ (pre ++ ints k xs).length := by rw [List.length_append, ints_length]; omega
theorem andn16 {x : Int} (hx : isByte x) : bits .u8 (BitVec.ofInt IntKind.u8.bits x &&& ~~~ BitVec.ofInt IntKind.u8.bits 16) = .int .u8 (x - x / 16 % 2 * 16) := by
  have := byte_all (fun n => decide (IntKind.u8.wrap ((BitVec.ofInt IntKind.u8.bits (n : Int) &&& ~~~ BitVec.ofInt IntKind.u8.bits 16).toNat : Int) = (n : Int) - (n : Int) / 16 % 2 * 16)) (by decide +kernel) hx
  simp only [decide_eq_true_eq, Int.toNat_of_nonneg hx.1] at this
  exact congrArg (Value.int .u8) this
theorem andn128 {x : Int} (hx : isByte x) : bits .u8 (BitVec.ofInt IntKind.u8.bits x &&& ~~~ BitVec.ofInt IntKind.u8.bits 128) = .int .u8 (x % 128) := by
  have := byte_all (fun n => decide (IntKind.u8.wrap ((BitVec.ofInt IntKind.u8.bits (n : Int) &&& ~~~ BitVec.ofInt IntKind.u8.bits 128).toNat : Int) = (n : Int) % 128)) (by decide +kernel) hx
  simp only [decide_eq_true_eq, Int.toNat_of_nonneg hx.1] at this
  exact congrArg (Value.int .u8) this
theorem or128 {x : Int} (hx : isByte x) : bits .u8 (BitVec.ofInt IntKind.u8.bits x ||| BitVec.ofInt IntKind.u8.bits 128) = .int .u8 (x % 128 + 128) := by
  have := byte_all (fun n => decide (IntKind.u8.wrap ((BitVec.ofInt IntKind.u8.bits (n : Int) ||| BitVec.ofInt IntKind.u8.bits 128).toNat : Int) = (n : Int) % 128 + 128)) (by decide +kernel) hx
  simp only [decide_eq_true_eq, Int.toNat_of_nonneg hx.1] at this
  exact congrArg (Value.int .u8) this
end Go.Proofs.Ytbjipdmbdabniaa.Ax
