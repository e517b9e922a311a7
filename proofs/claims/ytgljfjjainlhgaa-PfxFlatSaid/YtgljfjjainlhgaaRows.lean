/-
  No cell of these rows narrows 'for every input' (looked for: loops, veiled, ifaces, maps, wideKeys, modest, calm, conditions, laid).
  DERIVED. THE GIVEN ROWS OF THIS SEAT. 7 by the template 'for every input the law returns true; each argument reads behind the call as it read before'; 0 by the template 'total and deterministic' (their statements: YtgljfjjainlhgaaTotals.lean).
  GIVEN WITH THE SEED: the statements are not yours to turn. If you find one false, say at which input.
  Laid BY PROGRAM, IN A SANDBOX (cutbox-rows.mjs): the forced cells as the released guide's own fill.sh prints them over the translation b825ab7d880608b2… (all of the seat's roots in one cut). By AI agents, Wed Nov 11 2026. No macro, syntax, notation, axiom, sorry.
-/
import Derived.Test.YtgljfjjainlhgaaChecked
import GoSem.Claim
import GoSem.ClaimJoined
import GoSem.ClaimMapViews
import Derived.JoinedTies
import Derived.KernelRfl
namespace Go.Proofs.Ytgljfjjainlhgaa
/- THE CELL 'sum', in the pinned program and in every row, IS THE sha256 OF THE DUMP (.gsa) THAT YtgljfjjainlhgaaProg.lean LOADS. Nothing in Lean hashes anything: it is a label: what it is worth is what the hold of that sum in a sandbox is worth. -/
noncomputable def Try.pinned : Pinned := { name := "ytgljfjjainlhgaa", sum := "b825ab7d880608b2379cb8b2c31a1fd80cfb24ae8333ae356b8540d570a58228", checked := Try.checked }
namespace Rows
def none {H : Type} : Left H := { results := [], args := [] }

/-- 'dragomanlaw04.PfxPairs': WHATEVER THE INPUT: true; the input reads as it did. -/
def pfxPairsSpec : ChangeSpec := { name := "pfxPairs", fn := fun _ => fun
  | [d1, d2] => { results := [.lit (.bool true)], args := [d1, d2] }
  | _ => none }
def pfxPairsRow : OpenClaim := { program := "ytgljfjjainlhgaa", sum := "b825ab7d880608b2379cb8b2c31a1fd80cfb24ae8333ae356b8540d570a58228", func := "dragoman/dragomanlaw04.PfxPairs", spec := "pfxPairs", unfollowed := true, recurses := true, apart := false }
def PfxPairsSaid : Prop := pfxPairsRow.holds Try.pinned (OpenSpec.ofChange pfxPairsSpec)

/-- ITS FALSE NEIGHBOUR: 'it returns false'. Refute it at one input. -/
def pfxPairsWrong : ChangeSpec := { name := "pfxPairs", fn := fun _ => fun
  | [d1, d2] => { results := [.lit (.bool false)], args := [d1, d2] }
  | _ => none }
def PfxPairsWrongFalsely : Prop := pfxPairsRow.holds Try.pinned (OpenSpec.ofChange pfxPairsWrong)

/-- 'dragomanlaw04.PfxFlat': WHATEVER THE INPUT: true; the input reads as it did. -/
def pfxFlatSpec : ChangeSpec := { name := "pfxFlat", fn := fun _ => fun
  | [d] => { results := [.lit (.bool true)], args := [d] }
  | _ => none }
def pfxFlatRow : OpenClaim := { program := "ytgljfjjainlhgaa", sum := "b825ab7d880608b2379cb8b2c31a1fd80cfb24ae8333ae356b8540d570a58228", func := "dragoman/dragomanlaw04.PfxFlat", spec := "pfxFlat", unfollowed := true, recurses := true, apart := false }
def PfxFlatSaid : Prop := pfxFlatRow.holds Try.pinned (OpenSpec.ofChange pfxFlatSpec)

/-- ITS FALSE NEIGHBOUR: 'it returns false'. Refute it at one input. -/
def pfxFlatWrong : ChangeSpec := { name := "pfxFlat", fn := fun _ => fun
  | [d] => { results := [.lit (.bool false)], args := [d] }
  | _ => none }
def PfxFlatWrongFalsely : Prop := pfxFlatRow.holds Try.pinned (OpenSpec.ofChange pfxFlatWrong)

/-- 'dragomanlaw04.PfxParts': WHATEVER THE INPUT: true; the input reads as it did. -/
def pfxPartsSpec : ChangeSpec := { name := "pfxParts", fn := fun _ => fun
  | [d1, d2, d3] => { results := [.lit (.bool true)], args := [d1, d2, d3] }
  | _ => none }
def pfxPartsRow : OpenClaim := { program := "ytgljfjjainlhgaa", sum := "b825ab7d880608b2379cb8b2c31a1fd80cfb24ae8333ae356b8540d570a58228", func := "dragoman/dragomanlaw04.PfxParts", spec := "pfxParts", unfollowed := true, recurses := true, apart := false }
def PfxPartsSaid : Prop := pfxPartsRow.holds Try.pinned (OpenSpec.ofChange pfxPartsSpec)

/-- ITS FALSE NEIGHBOUR: 'it returns false'. Refute it at one input. -/
def pfxPartsWrong : ChangeSpec := { name := "pfxParts", fn := fun _ => fun
  | [d1, d2, d3] => { results := [.lit (.bool false)], args := [d1, d2, d3] }
  | _ => none }
def PfxPartsWrongFalsely : Prop := pfxPartsRow.holds Try.pinned (OpenSpec.ofChange pfxPartsWrong)

/-- 'dragomanlaw04.PfxIn': WHATEVER THE INPUT: true; the input reads as it did. -/
def pfxInSpec : ChangeSpec := { name := "pfxIn", fn := fun _ => fun
  | [d1, d2] => { results := [.lit (.bool true)], args := [d1, d2] }
  | _ => none }
def pfxInRow : OpenClaim := { program := "ytgljfjjainlhgaa", sum := "b825ab7d880608b2379cb8b2c31a1fd80cfb24ae8333ae356b8540d570a58228", func := "dragoman/dragomanlaw04.PfxIn", spec := "pfxIn", unfollowed := true, recurses := true, apart := false }
def PfxInSaid : Prop := pfxInRow.holds Try.pinned (OpenSpec.ofChange pfxInSpec)

/-- ITS FALSE NEIGHBOUR: 'it returns false'. Refute it at one input. -/
def pfxInWrong : ChangeSpec := { name := "pfxIn", fn := fun _ => fun
  | [d1, d2] => { results := [.lit (.bool false)], args := [d1, d2] }
  | _ => none }
def PfxInWrongFalsely : Prop := pfxInRow.holds Try.pinned (OpenSpec.ofChange pfxInWrong)

/-- 'dragomanlaw04.PfxTakes': WHATEVER THE INPUT: true; the input reads as it did. -/
def pfxTakesSpec : ChangeSpec := { name := "pfxTakes", fn := fun _ => fun
  | [d1, d2] => { results := [.lit (.bool true)], args := [d1, d2] }
  | _ => none }
def pfxTakesRow : OpenClaim := { program := "ytgljfjjainlhgaa", sum := "b825ab7d880608b2379cb8b2c31a1fd80cfb24ae8333ae356b8540d570a58228", func := "dragoman/dragomanlaw04.PfxTakes", spec := "pfxTakes", unfollowed := true, recurses := true, apart := false }
def PfxTakesSaid : Prop := pfxTakesRow.holds Try.pinned (OpenSpec.ofChange pfxTakesSpec)

/-- ITS FALSE NEIGHBOUR: 'it returns false'. Refute it at one input. -/
def pfxTakesWrong : ChangeSpec := { name := "pfxTakes", fn := fun _ => fun
  | [d1, d2] => { results := [.lit (.bool false)], args := [d1, d2] }
  | _ => none }
def PfxTakesWrongFalsely : Prop := pfxTakesRow.holds Try.pinned (OpenSpec.ofChange pfxTakesWrong)

/-- 'dragomanlaw04.PfxKinds': WHATEVER THE INPUT: true; the input reads as it did. -/
def pfxKindsSpec : ChangeSpec := { name := "pfxKinds", fn := fun _ => fun
  | [d] => { results := [.lit (.bool true)], args := [d] }
  | _ => none }
def pfxKindsRow : OpenClaim := { program := "ytgljfjjainlhgaa", sum := "b825ab7d880608b2379cb8b2c31a1fd80cfb24ae8333ae356b8540d570a58228", func := "dragoman/dragomanlaw04.PfxKinds", spec := "pfxKinds", unfollowed := true, recurses := true, apart := false }
def PfxKindsSaid : Prop := pfxKindsRow.holds Try.pinned (OpenSpec.ofChange pfxKindsSpec)

/-- ITS FALSE NEIGHBOUR: 'it returns false'. Refute it at one input. -/
def pfxKindsWrong : ChangeSpec := { name := "pfxKinds", fn := fun _ => fun
  | [d] => { results := [.lit (.bool false)], args := [d] }
  | _ => none }
def PfxKindsWrongFalsely : Prop := pfxKindsRow.holds Try.pinned (OpenSpec.ofChange pfxKindsWrong)

/-- 'dragomanlaw04.PfxOne': WHATEVER THE INPUT: true; the input reads as it did. -/
def pfxOneSpec : ChangeSpec := { name := "pfxOne", fn := fun _ => fun
  | [d1, d2] => { results := [.lit (.bool true)], args := [d1, d2] }
  | _ => none }
def pfxOneRow : OpenClaim := { program := "ytgljfjjainlhgaa", sum := "b825ab7d880608b2379cb8b2c31a1fd80cfb24ae8333ae356b8540d570a58228", func := "dragoman/dragomanlaw04.PfxOne", spec := "pfxOne", unfollowed := true, recurses := true, apart := false }
def PfxOneSaid : Prop := pfxOneRow.holds Try.pinned (OpenSpec.ofChange pfxOneSpec)

/-- ITS FALSE NEIGHBOUR: 'it returns false'. Refute it at one input. -/
def pfxOneWrong : ChangeSpec := { name := "pfxOne", fn := fun _ => fun
  | [d1, d2] => { results := [.lit (.bool false)], args := [d1, d2] }
  | _ => none }
def PfxOneWrongFalsely : Prop := pfxOneRow.holds Try.pinned (OpenSpec.ofChange pfxOneWrong)

/- THE SECOND FORM. 'bulk': how many values and letters a reading holds, each counted each time it is reached (what is shared counts as often as it is met; a slice's spare places count too). A statement '..UptoSaid' is the law's where the arguments, and the package variables that the reading takes, are together of bulk at most 1048576: NARROWER than '..Said'. Prove '..Said' where nothing that the law and all that it calls make is longer than what came in: it says more and counts as full. Else prove '..UptoSaid'. A law counts once. -/
mutual
def uptoBulk {H : Type} : DataW H → Nat
  | .lit (.string bytes) => bytes.length + 1
  | .lit _ => 1
  | .nil => 1
  | .ptr d => uptoBulk d + 1
  | .slice elems spare => uptoBulkAll elems + uptoBulkAll spare + 1
  | .agg parts => uptoBulkAll parts + 1
  | .iface _ d => uptoBulk d + 1
  | .map entries => uptoBulkEntries entries + 1
  | .held _ => 1
def uptoBulkAll {H : Type} : List (DataW H) → Nat
  | [] => 0
  | d :: r => uptoBulk d + uptoBulkAll r
def uptoBulkEntries {H : Type} : List (Lit × DataW H) → Nat
  | [] => 0
  | x :: r => uptoBulkEntry x + uptoBulkEntries r
def uptoBulkEntry {H : Type} : Lit × DataW H → Nat
  | (.string bytes, d) => bytes.length + uptoBulk d + 1
  | (_, d) => uptoBulk d + 1
 end
def uptoSmall : (H : Type) → List (DataW H) → Bool := fun _ ds => decide (uptoBulkAll ds ≤ 1048576)
def OpenSpec.upto (s : _root_.Go.ChangeSpec) : _root_.Go.OpenSpec := { _root_.Go.OpenSpec.ofChange s with cond := some uptoSmall }

/-- 'dragomanlaw04.PfxPairs', WHERE WHAT IT READS IS OF BULK AT MOST 1048576: true; the input reads as it did. -/
def pfxPairsUptoRow : OpenClaim := { program := "ytgljfjjainlhgaa", sum := "b825ab7d880608b2379cb8b2c31a1fd80cfb24ae8333ae356b8540d570a58228", func := "dragoman/dragomanlaw04.PfxPairs", spec := "pfxPairs", unfollowed := true, recurses := true, apart := false, narrowed := true }
def PfxPairsUptoSaid : Prop := pfxPairsUptoRow.holds Try.pinned (OpenSpec.upto pfxPairsSpec)

/-- 'dragomanlaw04.PfxFlat', WHERE WHAT IT READS IS OF BULK AT MOST 1048576: true; the input reads as it did. -/
def pfxFlatUptoRow : OpenClaim := { program := "ytgljfjjainlhgaa", sum := "b825ab7d880608b2379cb8b2c31a1fd80cfb24ae8333ae356b8540d570a58228", func := "dragoman/dragomanlaw04.PfxFlat", spec := "pfxFlat", unfollowed := true, recurses := true, apart := false, narrowed := true }
def PfxFlatUptoSaid : Prop := pfxFlatUptoRow.holds Try.pinned (OpenSpec.upto pfxFlatSpec)

/-- 'dragomanlaw04.PfxParts', WHERE WHAT IT READS IS OF BULK AT MOST 1048576: true; the input reads as it did. -/
def pfxPartsUptoRow : OpenClaim := { program := "ytgljfjjainlhgaa", sum := "b825ab7d880608b2379cb8b2c31a1fd80cfb24ae8333ae356b8540d570a58228", func := "dragoman/dragomanlaw04.PfxParts", spec := "pfxParts", unfollowed := true, recurses := true, apart := false, narrowed := true }
def PfxPartsUptoSaid : Prop := pfxPartsUptoRow.holds Try.pinned (OpenSpec.upto pfxPartsSpec)

/-- 'dragomanlaw04.PfxIn', WHERE WHAT IT READS IS OF BULK AT MOST 1048576: true; the input reads as it did. -/
def pfxInUptoRow : OpenClaim := { program := "ytgljfjjainlhgaa", sum := "b825ab7d880608b2379cb8b2c31a1fd80cfb24ae8333ae356b8540d570a58228", func := "dragoman/dragomanlaw04.PfxIn", spec := "pfxIn", unfollowed := true, recurses := true, apart := false, narrowed := true }
def PfxInUptoSaid : Prop := pfxInUptoRow.holds Try.pinned (OpenSpec.upto pfxInSpec)

/-- 'dragomanlaw04.PfxTakes', WHERE WHAT IT READS IS OF BULK AT MOST 1048576: true; the input reads as it did. -/
def pfxTakesUptoRow : OpenClaim := { program := "ytgljfjjainlhgaa", sum := "b825ab7d880608b2379cb8b2c31a1fd80cfb24ae8333ae356b8540d570a58228", func := "dragoman/dragomanlaw04.PfxTakes", spec := "pfxTakes", unfollowed := true, recurses := true, apart := false, narrowed := true }
def PfxTakesUptoSaid : Prop := pfxTakesUptoRow.holds Try.pinned (OpenSpec.upto pfxTakesSpec)

/-- 'dragomanlaw04.PfxKinds', WHERE WHAT IT READS IS OF BULK AT MOST 1048576: true; the input reads as it did. -/
def pfxKindsUptoRow : OpenClaim := { program := "ytgljfjjainlhgaa", sum := "b825ab7d880608b2379cb8b2c31a1fd80cfb24ae8333ae356b8540d570a58228", func := "dragoman/dragomanlaw04.PfxKinds", spec := "pfxKinds", unfollowed := true, recurses := true, apart := false, narrowed := true }
def PfxKindsUptoSaid : Prop := pfxKindsUptoRow.holds Try.pinned (OpenSpec.upto pfxKindsSpec)

/-- 'dragomanlaw04.PfxOne', WHERE WHAT IT READS IS OF BULK AT MOST 1048576: true; the input reads as it did. -/
def pfxOneUptoRow : OpenClaim := { program := "ytgljfjjainlhgaa", sum := "b825ab7d880608b2379cb8b2c31a1fd80cfb24ae8333ae356b8540d570a58228", func := "dragoman/dragomanlaw04.PfxOne", spec := "pfxOne", unfollowed := true, recurses := true, apart := false, narrowed := true }
def PfxOneUptoSaid : Prop := pfxOneUptoRow.holds Try.pinned (OpenSpec.upto pfxOneSpec)

end Rows
end Go.Proofs.Ytgljfjjainlhgaa
