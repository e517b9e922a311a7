/- Contracts of functions over the abstract machine. No conditions: lemmas alone. -/
import Derived.Test.YtbjipdmbdabniaaAttrBackLibD
import Derived.Test.YtbjipdmbdabniaaAttrBackL2
import Derived.Test.YtbjipdmbdabniaaAttrBackLy
namespace Go.Proofs.Ytbjipdmbdabniaa.Ax
open Go Go.RowKit
set_option linter.unusedVariables false
set_option linter.unusedSimpArgs false
set_option maxRecDepth 100000
set_option maxHeartbeats 20000000
/-! bytes, and their bits -/
def isByte (x : Int) : Prop := 0 ≤ x ∧ x ≤ 255
theorem byte_all (p : Nat → Bool) (h : (List.range 256).all p = true) {x : Int} (hx : isByte x) : p x.toNat = true := List.all_eq_true.1 h _ (List.mem_range.2 (by have := hx.1; have := hx.2; omega))
theorem and16 {x : Int} (hx : isByte x) : bits .u8 (BitVec.ofInt IntKind.u8.bits x &&& BitVec.ofInt IntKind.u8.bits 16) = .int .u8 (x / 16 % 2 * 16) := by
  have := byte_all (fun n => decide (IntKind.u8.wrap ((BitVec.ofInt IntKind.u8.bits (n : Int) &&& BitVec.ofInt IntKind.u8.bits 16).toNat : Int) = (n : Int) / 16 % 2 * 16)) (by decide +kernel) hx
  simp only [decide_eq_true_eq, Int.toNat_of_nonneg hx.1] at this
  exact congrArg (Value.int .u8) this
theorem and32 {x : Int} (hx : isByte x) : bits .u8 (BitVec.ofInt IntKind.u8.bits x &&& BitVec.ofInt IntKind.u8.bits 32) = .int .u8 (x / 32 % 2 * 32) := by
  have := byte_all (fun n => decide (IntKind.u8.wrap ((BitVec.ofInt IntKind.u8.bits (n : Int) &&& BitVec.ofInt IntKind.u8.bits 32).toNat : Int) = (n : Int) / 32 % 2 * 32)) (by decide +kernel) hx
  simp only [decide_eq_true_eq, Int.toNat_of_nonneg hx.1] at this
  exact congrArg (Value.int .u8) this
theorem and128 {x : Int} (hx : isByte x) : bits .u8 (BitVec.ofInt IntKind.u8.bits x &&& BitVec.ofInt IntKind.u8.bits 128) = .int .u8 (x / 128 * 128) := by
  have := byte_all (fun n => decide (IntKind.u8.wrap ((BitVec.ofInt IntKind.u8.bits (n : Int) &&& BitVec.ofInt IntKind.u8.bits 128).toNat : Int) = (n : Int) / 128 * 128)) (by decide +kernel) hx
  simp only [decide_eq_true_eq, Int.toNat_of_nonneg hx.1] at this
  exact congrArg (Value.int .u8) this
theorem and192 {x : Int} (hx : isByte x) : bits .u8 (BitVec.ofInt IntKind.u8.bits x &&& BitVec.ofInt IntKind.u8.bits 192) = .int .u8 (x / 64 * 64) := by
  have := byte_all (fun n => decide (IntKind.u8.wrap ((BitVec.ofInt IntKind.u8.bits (n : Int) &&& BitVec.ofInt IntKind.u8.bits 192).toNat : Int) = (n : Int) / 64 * 64)) (by decide +kernel) hx
  simp only [decide_eq_true_eq, Int.toNat_of_nonneg hx.1] at this
  exact congrArg (Value.int .u8) this
theorem or64 {x y : Int} (hx : isByte x) (hy : isByte y) : bits .i64 (BitVec.ofInt IntKind.i64.bits x ||| BitVec.ofInt IntKind.i64.bits (y * 256)) = .int .i64 (y * 256 + x) := by
  have h1 := hx.1
  have h2 := hx.2
  have h3 := hy.1
  have h4 := hy.2
  obtain ⟨a, rfl⟩ : ∃ a : Nat, x = a := ⟨x.toNat, by omega⟩
  obtain ⟨b, rfl⟩ : ∃ b : Nat, y = b := ⟨y.toNat, by omega⟩
  have ho : a ||| (b * 256) = b * 256 + a := by
    rw [Nat.or_comm, Nat.mul_comm b 256]
    exact (Nat.two_pow_add_eq_or_of_lt (i := 8) (by omega) _).symm
  have ea : (BitVec.ofInt IntKind.i64.bits (a : Int)).toNat = a := by
    rw [BitVec.ofInt_natCast, BitVec.toNat_ofNat]
    exact Nat.mod_eq_of_lt (by show a < 2 ^ 64; omega)
  have eb : (BitVec.ofInt IntKind.i64.bits ((b : Int) * 256)).toNat = b * 256 := by
    rw [show (b : Int) * 256 = ((b * 256 : Nat) : Int) by omega, BitVec.ofInt_natCast, BitVec.toNat_ofNat]
    exact Nat.mod_eq_of_lt (by show b * 256 < 2 ^ 64; omega)
  unfold bits
  rw [BitVec.toNat_or, ea, eb, ho, w_i64 (by omega) (by omega)]
  congr 1
theorem getD_byte {xs : List Int} (hb : ∀ x ∈ xs, 0 ≤ x ∧ x ≤ 255) (i : Nat) : isByte (xs.getD i 0) := by
  rcases Nat.lt_or_ge i xs.length with h | h
  · exact hb _ (getD_mem h)
  · rw [List.getD_eq_getElem?_getD, List.getElem?_eq_none_iff.2 h]; exact ⟨by decide, by decide⟩
/-! attributes -/
structure AV where
  origin : Int
  path : List Int
  hop : Int
  med : Int
  pref : Int
  hasMed : Bool
  hasPref : Bool
  comms : List Int
def AV.zero : AV := ⟨0, [], 0, 0, 0, false, false, []⟩
def flagsP (k : Int) : Int := if k = 1 ∨ k = 2 ∨ k = 3 ∨ k = 5 then 64 else if k = 4 then 128 else if k = 8 then 192 else 0
def lenP (k n : Int) : Bool := if k = 1 then decide (n = 1) else if k = 3 ∨ k = 4 ∨ k = 5 then decide (n = 4) else if k = 8 then decide (n % 4 = 0) else true
def headP (xs : List Int) : Nat := if xs.getD 0 0 / 16 % 2 = 1 then 4 else 3
def sizeP (xs : List Int) : Nat := if xs.getD 0 0 / 16 % 2 = 1 then (xs.getD 2 0 * 256 + xs.getD 3 0).toNat else (xs.getD 2 0).toNat
def cutP (xs : List Int) : Prop := headP xs ≤ xs.length ∧ headP xs + sizeP xs ≤ xs.length

end Go.Proofs.Ytbjipdmbdabniaa.Ax
