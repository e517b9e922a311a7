/-
  No cell of these rows narrows 'for every input' (looked for: loops, veiled, ifaces, maps, wideKeys, modest, calm, conditions, laid).
  DERIVED. THE GIVEN ROWS OF THIS SEAT. 4 by the template 'for every input the law returns true; each argument reads behind the call as it read before'; 0 by the template 'total and deterministic' (their statements: YtpcjinapcmkbcaaTotals.lean).
  GIVEN WITH THE SEED: the statements are not yours to turn. If you find one false, say at which input.
  Laid BY PROGRAM, IN A SANDBOX (cutbox-rows.mjs): the forced cells as the released guide's own fill.sh prints them over the translation 046fe3f711e2b683… (all of the seat's roots in one cut). By AI agents, Wed Nov 11 2026. No macro, syntax, notation, axiom, sorry.
-/
import Derived.Test.YtpcjinapcmkbcaaChecked
import GoSem.Claim
import GoSem.ClaimJoined
import GoSem.ClaimMapViews
import Derived.JoinedTies
import Derived.KernelRfl
namespace Go.Proofs.Ytpcjinapcmkbcaa
/- THE CELL 'sum', in the pinned program and in every row, IS THE sha256 OF THE DUMP (.gsa) THAT YtpcjinapcmkbcaaProg.lean LOADS. Nothing in Lean hashes anything: it is a label: what it is worth is what the hold of that sum in a sandbox is worth. -/
noncomputable def Try.pinned : Pinned := { name := "ytpcjinapcmkbcaa", sum := "046fe3f711e2b68345d3c37719682c8c2b66e25e3a9a3ce5de1d360e0f878967", checked := Try.checked }
namespace Rows
def none {H : Type} : Left H := { results := [], args := [] }

/-- 'dragomanlaw23.NlriPuts': WHATEVER THE INPUT: true; the input reads as it did. -/
def nlriPutsSpec : ChangeSpec := { name := "nlriPuts", fn := fun _ => fun
  | [d] => { results := [.lit (.bool true)], args := [d] }
  | _ => none }
def nlriPutsRow : OpenClaim := { program := "ytpcjinapcmkbcaa", sum := "046fe3f711e2b68345d3c37719682c8c2b66e25e3a9a3ce5de1d360e0f878967", func := "dragoman/dragomanlaw23.NlriPuts", spec := "nlriPuts", apart := false }
def NlriPutsSaid : Prop := nlriPutsRow.holds Try.pinned (OpenSpec.ofChange nlriPutsSpec)

/-- ITS FALSE NEIGHBOUR: 'it returns false'. Refute it at one input. -/
def nlriPutsWrong : ChangeSpec := { name := "nlriPuts", fn := fun _ => fun
  | [d] => { results := [.lit (.bool false)], args := [d] }
  | _ => none }
def NlriPutsWrongFalsely : Prop := nlriPutsRow.holds Try.pinned (OpenSpec.ofChange nlriPutsWrong)

/-- 'dragomanlaw23.NlriReads': WHATEVER THE INPUT: true; the input reads as it did. -/
def nlriReadsSpec : ChangeSpec := { name := "nlriReads", fn := fun _ => fun
  | [d] => { results := [.lit (.bool true)], args := [d] }
  | _ => none }
def nlriReadsRow : OpenClaim := { program := "ytpcjinapcmkbcaa", sum := "046fe3f711e2b68345d3c37719682c8c2b66e25e3a9a3ce5de1d360e0f878967", func := "dragoman/dragomanlaw23.NlriReads", spec := "nlriReads", apart := false }
def NlriReadsSaid : Prop := nlriReadsRow.holds Try.pinned (OpenSpec.ofChange nlriReadsSpec)

/-- ITS FALSE NEIGHBOUR: 'it returns false'. Refute it at one input. -/
def nlriReadsWrong : ChangeSpec := { name := "nlriReads", fn := fun _ => fun
  | [d] => { results := [.lit (.bool false)], args := [d] }
  | _ => none }
def NlriReadsWrongFalsely : Prop := nlriReadsRow.holds Try.pinned (OpenSpec.ofChange nlriReadsWrong)

/-- 'dragomanlaw23.NlriBack': WHATEVER THE INPUT: true; the input reads as it did. -/
def nlriBackSpec : ChangeSpec := { name := "nlriBack", fn := fun _ => fun
  | [d1, d2] => { results := [.lit (.bool true)], args := [d1, d2] }
  | _ => none }
def nlriBackRow : OpenClaim := { program := "ytpcjinapcmkbcaa", sum := "046fe3f711e2b68345d3c37719682c8c2b66e25e3a9a3ce5de1d360e0f878967", func := "dragoman/dragomanlaw23.NlriBack", spec := "nlriBack", apart := false }
def NlriBackSaid : Prop := nlriBackRow.holds Try.pinned (OpenSpec.ofChange nlriBackSpec)

/-- ITS FALSE NEIGHBOUR: 'it returns false'. Refute it at one input. -/
def nlriBackWrong : ChangeSpec := { name := "nlriBack", fn := fun _ => fun
  | [d1, d2] => { results := [.lit (.bool false)], args := [d1, d2] }
  | _ => none }
def NlriBackWrongFalsely : Prop := nlriBackRow.holds Try.pinned (OpenSpec.ofChange nlriBackWrong)

/-- 'dragomanlaw23.NlriJoins': WHATEVER THE INPUT: true; the input reads as it did. -/
def nlriJoinsSpec : ChangeSpec := { name := "nlriJoins", fn := fun _ => fun
  | [d1, d2] => { results := [.lit (.bool true)], args := [d1, d2] }
  | _ => none }
def nlriJoinsRow : OpenClaim := { program := "ytpcjinapcmkbcaa", sum := "046fe3f711e2b68345d3c37719682c8c2b66e25e3a9a3ce5de1d360e0f878967", func := "dragoman/dragomanlaw23.NlriJoins", spec := "nlriJoins", apart := false }
def NlriJoinsSaid : Prop := nlriJoinsRow.holds Try.pinned (OpenSpec.ofChange nlriJoinsSpec)

/-- ITS FALSE NEIGHBOUR: 'it returns false'. Refute it at one input. -/
def nlriJoinsWrong : ChangeSpec := { name := "nlriJoins", fn := fun _ => fun
  | [d1, d2] => { results := [.lit (.bool false)], args := [d1, d2] }
  | _ => none }
def NlriJoinsWrongFalsely : Prop := nlriJoinsRow.holds Try.pinned (OpenSpec.ofChange nlriJoinsWrong)

/- THE SECOND FORM. 'bulk': how many values and letters a reading holds, each counted each time it is reached (what is shared counts as often as it is met; a slice's spare places count too). A statement '..UptoSaid' is the law's where the arguments, and the package variables that the reading takes, are together of bulk at most 1048576: NARROWER than '..Said'. Prove '..Said' where nothing that the law and all that it calls make is longer than what came in: it says more and counts as full. Else prove '..UptoSaid'. A law counts once. -/
mutual
def uptoBulk {H : Type} : DataW H → Nat
  | .lit (.string bytes) => bytes.length + 1
  | .lit _ => 1
  | .nil => 1
  | .ptr d => uptoBulk d + 1
  | .slice elems spare => uptoBulkAll elems + uptoBulkAll spare + 1
  | .agg parts => uptoBulkAll parts + 1
  | .iface _ d => uptoBulk d + 1
  | .map entries => uptoBulkEntries entries + 1
  | .held _ => 1
def uptoBulkAll {H : Type} : List (DataW H) → Nat
  | [] => 0
  | d :: r => uptoBulk d + uptoBulkAll r
def uptoBulkEntries {H : Type} : List (Lit × DataW H) → Nat
  | [] => 0
  | x :: r => uptoBulkEntry x + uptoBulkEntries r
def uptoBulkEntry {H : Type} : Lit × DataW H → Nat
  | (.string bytes, d) => bytes.length + uptoBulk d + 1
  | (_, d) => uptoBulk d + 1
 end
def uptoSmall : (H : Type) → List (DataW H) → Bool := fun _ ds => decide (uptoBulkAll ds ≤ 1048576)
def OpenSpec.upto (s : _root_.Go.ChangeSpec) : _root_.Go.OpenSpec := { _root_.Go.OpenSpec.ofChange s with cond := some uptoSmall }

/-- 'dragomanlaw23.NlriPuts', WHERE WHAT IT READS IS OF BULK AT MOST 1048576: true; the input reads as it did. -/
def nlriPutsUptoRow : OpenClaim := { program := "ytpcjinapcmkbcaa", sum := "046fe3f711e2b68345d3c37719682c8c2b66e25e3a9a3ce5de1d360e0f878967", func := "dragoman/dragomanlaw23.NlriPuts", spec := "nlriPuts", apart := false, narrowed := true }
def NlriPutsUptoSaid : Prop := nlriPutsUptoRow.holds Try.pinned (OpenSpec.upto nlriPutsSpec)

/-- 'dragomanlaw23.NlriReads', WHERE WHAT IT READS IS OF BULK AT MOST 1048576: true; the input reads as it did. -/
def nlriReadsUptoRow : OpenClaim := { program := "ytpcjinapcmkbcaa", sum := "046fe3f711e2b68345d3c37719682c8c2b66e25e3a9a3ce5de1d360e0f878967", func := "dragoman/dragomanlaw23.NlriReads", spec := "nlriReads", apart := false, narrowed := true }
def NlriReadsUptoSaid : Prop := nlriReadsUptoRow.holds Try.pinned (OpenSpec.upto nlriReadsSpec)

/-- 'dragomanlaw23.NlriBack', WHERE WHAT IT READS IS OF BULK AT MOST 1048576: true; the input reads as it did. -/
def nlriBackUptoRow : OpenClaim := { program := "ytpcjinapcmkbcaa", sum := "046fe3f711e2b68345d3c37719682c8c2b66e25e3a9a3ce5de1d360e0f878967", func := "dragoman/dragomanlaw23.NlriBack", spec := "nlriBack", apart := false, narrowed := true }
def NlriBackUptoSaid : Prop := nlriBackUptoRow.holds Try.pinned (OpenSpec.upto nlriBackSpec)

/-- 'dragomanlaw23.NlriJoins', WHERE WHAT IT READS IS OF BULK AT MOST 1048576: true; the input reads as it did. -/
def nlriJoinsUptoRow : OpenClaim := { program := "ytpcjinapcmkbcaa", sum := "046fe3f711e2b68345d3c37719682c8c2b66e25e3a9a3ce5de1d360e0f878967", func := "dragoman/dragomanlaw23.NlriJoins", spec := "nlriJoins", apart := false, narrowed := true }
def NlriJoinsUptoSaid : Prop := nlriJoinsUptoRow.holds Try.pinned (OpenSpec.upto nlriJoinsSpec)

end Rows
end Go.Proofs.Ytpcjinapcmkbcaa
