/-
  No cell of these rows narrows 'for every input' (looked for: loops, veiled, ifaces, maps, wideKeys, modest, calm, conditions, laid).
  DERIVED. THE GIVEN ROWS OF THIS SEAT. 5 by the template 'for every input the law returns true; each argument reads behind the call as it read before'; 0 by the template 'total and deterministic' (their statements: YtbjipdmbdabniaaTotals.lean).
  GIVEN WITH THE SEED: the statements are not yours to turn. If you find one false, say at which input.
  Laid BY PROGRAM, IN A SANDBOX (cutbox-rows.mjs): the forced cells as the released guide's own fill.sh prints them over the translation 664358c249f19798… (all of the seat's roots in one cut). By AI agents, Wed Nov 11 2026. No macro, syntax, notation, axiom, sorry.
-/
import Derived.Test.YtbjipdmbdabniaaChecked
import GoSem.Claim
import GoSem.ClaimJoined
import GoSem.ClaimMapViews
import Derived.JoinedTies
import Derived.KernelRfl
namespace Go.Proofs.Ytbjipdmbdabniaa
/- THE CELL 'sum', in the pinned program and in every row, IS THE sha256 OF THE DUMP (.gsa) THAT YtbjipdmbdabniaaProg.lean LOADS. Nothing in Lean hashes anything: it is a label: what it is worth is what the hold of that sum in a sandbox is worth. -/
noncomputable def Try.pinned : Pinned := { name := "ytbjipdmbdabniaa", sum := "664358c249f19798be71d972c9c2dc4b5504a416933e42c4cc03acd5813d4137", checked := Try.checked }
namespace Rows
def none {H : Type} : Left H := { results := [], args := [] }

/-- 'dragomanlaw24.AttrReads': WHATEVER THE INPUT: true; the input reads as it did. -/
def attrReadsSpec : ChangeSpec := { name := "attrReads", fn := fun _ => fun
  | [d1, d2] => { results := [.lit (.bool true)], args := [d1, d2] }
  | _ => none }
def attrReadsRow : OpenClaim := { program := "ytbjipdmbdabniaa", sum := "664358c249f19798be71d972c9c2dc4b5504a416933e42c4cc03acd5813d4137", func := "dragoman/dragomanlaw24.AttrReads", spec := "attrReads", unfollowed := true, recurses := true, apart := false }
def AttrReadsSaid : Prop := attrReadsRow.holds Try.pinned (OpenSpec.ofChange attrReadsSpec)

/-- ITS FALSE NEIGHBOUR: 'it returns false'. Refute it at one input. -/
def attrReadsWrong : ChangeSpec := { name := "attrReads", fn := fun _ => fun
  | [d1, d2] => { results := [.lit (.bool false)], args := [d1, d2] }
  | _ => none }
def AttrReadsWrongFalsely : Prop := attrReadsRow.holds Try.pinned (OpenSpec.ofChange attrReadsWrong)

/-- 'dragomanlaw24.AttrJoins': WHATEVER THE INPUT: true; the input reads as it did. -/
def attrJoinsSpec : ChangeSpec := { name := "attrJoins", fn := fun _ => fun
  | [d1, d2] => { results := [.lit (.bool true)], args := [d1, d2] }
  | _ => none }
def attrJoinsRow : OpenClaim := { program := "ytbjipdmbdabniaa", sum := "664358c249f19798be71d972c9c2dc4b5504a416933e42c4cc03acd5813d4137", func := "dragoman/dragomanlaw24.AttrJoins", spec := "attrJoins", unfollowed := true, recurses := true, apart := false }
def AttrJoinsSaid : Prop := attrJoinsRow.holds Try.pinned (OpenSpec.ofChange attrJoinsSpec)

/-- ITS FALSE NEIGHBOUR: 'it returns false'. Refute it at one input. -/
def attrJoinsWrong : ChangeSpec := { name := "attrJoins", fn := fun _ => fun
  | [d1, d2] => { results := [.lit (.bool false)], args := [d1, d2] }
  | _ => none }
def AttrJoinsWrongFalsely : Prop := attrJoinsRow.holds Try.pinned (OpenSpec.ofChange attrJoinsWrong)

/-- 'dragomanlaw24.AttrUnknown': WHATEVER THE INPUT: true; the input reads as it did. -/
def attrUnknownSpec : ChangeSpec := { name := "attrUnknown", fn := fun _ => fun
  | [d] => { results := [.lit (.bool true)], args := [d] }
  | _ => none }
def attrUnknownRow : OpenClaim := { program := "ytbjipdmbdabniaa", sum := "664358c249f19798be71d972c9c2dc4b5504a416933e42c4cc03acd5813d4137", func := "dragoman/dragomanlaw24.AttrUnknown", spec := "attrUnknown", unfollowed := true, recurses := true, apart := false }
def AttrUnknownSaid : Prop := attrUnknownRow.holds Try.pinned (OpenSpec.ofChange attrUnknownSpec)

/-- ITS FALSE NEIGHBOUR: 'it returns false'. Refute it at one input. -/
def attrUnknownWrong : ChangeSpec := { name := "attrUnknown", fn := fun _ => fun
  | [d] => { results := [.lit (.bool false)], args := [d] }
  | _ => none }
def AttrUnknownWrongFalsely : Prop := attrUnknownRow.holds Try.pinned (OpenSpec.ofChange attrUnknownWrong)

/-- 'dragomanlaw24.AttrPuts': WHATEVER THE INPUT: true; the input reads as it did. -/
def attrPutsSpec : ChangeSpec := { name := "attrPuts", fn := fun _ => fun
  | [d] => { results := [.lit (.bool true)], args := [d] }
  | _ => none }
def attrPutsRow : OpenClaim := { program := "ytbjipdmbdabniaa", sum := "664358c249f19798be71d972c9c2dc4b5504a416933e42c4cc03acd5813d4137", func := "dragoman/dragomanlaw24.AttrPuts", spec := "attrPuts", unfollowed := true, recurses := true, apart := false }
def AttrPutsSaid : Prop := attrPutsRow.holds Try.pinned (OpenSpec.ofChange attrPutsSpec)

/-- ITS FALSE NEIGHBOUR: 'it returns false'. Refute it at one input. -/
def attrPutsWrong : ChangeSpec := { name := "attrPuts", fn := fun _ => fun
  | [d] => { results := [.lit (.bool false)], args := [d] }
  | _ => none }
def AttrPutsWrongFalsely : Prop := attrPutsRow.holds Try.pinned (OpenSpec.ofChange attrPutsWrong)

/-- 'dragomanlaw24.AttrBack': WHATEVER THE INPUT: true; the input reads as it did. -/
def attrBackSpec : ChangeSpec := { name := "attrBack", fn := fun _ => fun
  | [d1, d2] => { results := [.lit (.bool true)], args := [d1, d2] }
  | _ => none }
def attrBackRow : OpenClaim := { program := "ytbjipdmbdabniaa", sum := "664358c249f19798be71d972c9c2dc4b5504a416933e42c4cc03acd5813d4137", func := "dragoman/dragomanlaw24.AttrBack", spec := "attrBack", unfollowed := true, recurses := true, apart := false }
def AttrBackSaid : Prop := attrBackRow.holds Try.pinned (OpenSpec.ofChange attrBackSpec)

/-- ITS FALSE NEIGHBOUR: 'it returns false'. Refute it at one input. -/
def attrBackWrong : ChangeSpec := { name := "attrBack", fn := fun _ => fun
  | [d1, d2] => { results := [.lit (.bool false)], args := [d1, d2] }
  | _ => none }
def AttrBackWrongFalsely : Prop := attrBackRow.holds Try.pinned (OpenSpec.ofChange attrBackWrong)

/- THE SECOND FORM. 'bulk': how many values and letters a reading holds, each counted each time it is reached (what is shared counts as often as it is met; a slice's spare places count too). A statement '..UptoSaid' is the law's where the arguments, and the package variables that the reading takes, are together of bulk at most 1048576: NARROWER than '..Said'. Prove '..Said' where nothing that the law and all that it calls make is longer than what came in: it says more and counts as full. Else prove '..UptoSaid'. A law counts once. -/
mutual
def uptoBulk {H : Type} : DataW H → Nat
  | .lit (.string bytes) => bytes.length + 1
  | .lit _ => 1
  | .nil => 1
  | .ptr d => uptoBulk d + 1
  | .slice elems spare => uptoBulkAll elems + uptoBulkAll spare + 1
  | .agg parts => uptoBulkAll parts + 1
  | .iface _ d => uptoBulk d + 1
  | .map entries => uptoBulkEntries entries + 1
  | .held _ => 1
def uptoBulkAll {H : Type} : List (DataW H) → Nat
  | [] => 0
  | d :: r => uptoBulk d + uptoBulkAll r
def uptoBulkEntries {H : Type} : List (Lit × DataW H) → Nat
  | [] => 0
  | x :: r => uptoBulkEntry x + uptoBulkEntries r
def uptoBulkEntry {H : Type} : Lit × DataW H → Nat
  | (.string bytes, d) => bytes.length + uptoBulk d + 1
  | (_, d) => uptoBulk d + 1
 end
def uptoSmall : (H : Type) → List (DataW H) → Bool := fun _ ds => decide (uptoBulkAll ds ≤ 1048576)
def OpenSpec.upto (s : _root_.Go.ChangeSpec) : _root_.Go.OpenSpec := { _root_.Go.OpenSpec.ofChange s with cond := some uptoSmall }

/-- 'dragomanlaw24.AttrReads', WHERE WHAT IT READS IS OF BULK AT MOST 1048576: true; the input reads as it did. -/
def attrReadsUptoRow : OpenClaim := { program := "ytbjipdmbdabniaa", sum := "664358c249f19798be71d972c9c2dc4b5504a416933e42c4cc03acd5813d4137", func := "dragoman/dragomanlaw24.AttrReads", spec := "attrReads", unfollowed := true, recurses := true, apart := false, narrowed := true }
def AttrReadsUptoSaid : Prop := attrReadsUptoRow.holds Try.pinned (OpenSpec.upto attrReadsSpec)

/-- 'dragomanlaw24.AttrJoins', WHERE WHAT IT READS IS OF BULK AT MOST 1048576: true; the input reads as it did. -/
def attrJoinsUptoRow : OpenClaim := { program := "ytbjipdmbdabniaa", sum := "664358c249f19798be71d972c9c2dc4b5504a416933e42c4cc03acd5813d4137", func := "dragoman/dragomanlaw24.AttrJoins", spec := "attrJoins", unfollowed := true, recurses := true, apart := false, narrowed := true }
def AttrJoinsUptoSaid : Prop := attrJoinsUptoRow.holds Try.pinned (OpenSpec.upto attrJoinsSpec)

/-- 'dragomanlaw24.AttrUnknown', WHERE WHAT IT READS IS OF BULK AT MOST 1048576: true; the input reads as it did. -/
def attrUnknownUptoRow : OpenClaim := { program := "ytbjipdmbdabniaa", sum := "664358c249f19798be71d972c9c2dc4b5504a416933e42c4cc03acd5813d4137", func := "dragoman/dragomanlaw24.AttrUnknown", spec := "attrUnknown", unfollowed := true, recurses := true, apart := false, narrowed := true }
def AttrUnknownUptoSaid : Prop := attrUnknownUptoRow.holds Try.pinned (OpenSpec.upto attrUnknownSpec)

/-- 'dragomanlaw24.AttrPuts', WHERE WHAT IT READS IS OF BULK AT MOST 1048576: true; the input reads as it did. -/
def attrPutsUptoRow : OpenClaim := { program := "ytbjipdmbdabniaa", sum := "664358c249f19798be71d972c9c2dc4b5504a416933e42c4cc03acd5813d4137", func := "dragoman/dragomanlaw24.AttrPuts", spec := "attrPuts", unfollowed := true, recurses := true, apart := false, narrowed := true }
def AttrPutsUptoSaid : Prop := attrPutsUptoRow.holds Try.pinned (OpenSpec.upto attrPutsSpec)

/-- 'dragomanlaw24.AttrBack', WHERE WHAT IT READS IS OF BULK AT MOST 1048576: true; the input reads as it did. -/
def attrBackUptoRow : OpenClaim := { program := "ytbjipdmbdabniaa", sum := "664358c249f19798be71d972c9c2dc4b5504a416933e42c4cc03acd5813d4137", func := "dragoman/dragomanlaw24.AttrBack", spec := "attrBack", unfollowed := true, recurses := true, apart := false, narrowed := true }
def AttrBackUptoSaid : Prop := attrBackUptoRow.holds Try.pinned (OpenSpec.upto attrBackSpec)

end Rows
end Go.Proofs.Ytbjipdmbdabniaa
