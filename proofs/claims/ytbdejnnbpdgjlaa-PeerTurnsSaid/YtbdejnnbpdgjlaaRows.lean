/-
  No cell of these rows narrows 'for every input' (looked for: loops, veiled, ifaces, maps, wideKeys, modest, calm, conditions, laid).
  DERIVED. THE GIVEN ROWS OF THIS SEAT. 9 by the template 'for every input the law returns true; each argument reads behind the call as it read before'; 0 by the template 'total and deterministic' (their statements: YtbdejnnbpdgjlaaTotals.lean).
  GIVEN WITH THE SEED: the statements are not yours to turn. If you find one false, say at which input.
  Laid BY PROGRAM, IN A SANDBOX (cutbox-rows.mjs): the forced cells as the released guide's own fill.sh prints them over the translation e72a45b6a74f09d2… (all of the seat's roots in one cut). By AI agents, Wed Nov 11 2026. No macro, syntax, notation, axiom, sorry.
-/
import Derived.Test.YtbdejnnbpdgjlaaChecked
import GoSem.Claim
import GoSem.ClaimJoined
import GoSem.ClaimMapViews
import Derived.JoinedTies
import Derived.KernelRfl
namespace Go.Proofs.Ytbdejnnbpdgjlaa
/- THE CELL 'sum', in the pinned program and in every row, IS THE sha256 OF THE DUMP (.gsa) THAT YtbdejnnbpdgjlaaProg.lean LOADS. Nothing in Lean hashes anything: it is a label: what it is worth is what the hold of that sum in a sandbox is worth. -/
noncomputable def Try.pinned : Pinned := { name := "ytbdejnnbpdgjlaa", sum := "e72a45b6a74f09d275fe4b67eb9b4d450390797007d2c51a4c6114e39b5430d3", checked := Try.checked }
namespace Rows
def none {H : Type} : Left H := { results := [], args := [] }

/-- 'dragomanlaw04.PfxKinds': WHATEVER THE INPUT: true; the input reads as it did. -/
def pfxKindsSpec : ChangeSpec := { name := "pfxKinds", fn := fun _ => fun
  | [d] => { results := [.lit (.bool true)], args := [d] }
  | _ => none }
def pfxKindsRow : OpenClaim := { program := "ytbdejnnbpdgjlaa", sum := "e72a45b6a74f09d275fe4b67eb9b4d450390797007d2c51a4c6114e39b5430d3", func := "dragoman/dragomanlaw04.PfxKinds", spec := "pfxKinds", unfollowed := true, recurses := true, apart := false }
def PfxKindsSaid : Prop := pfxKindsRow.holds Try.pinned (OpenSpec.ofChange pfxKindsSpec)

/-- ITS FALSE NEIGHBOUR: 'it returns false'. Refute it at one input. -/
def pfxKindsWrong : ChangeSpec := { name := "pfxKinds", fn := fun _ => fun
  | [d] => { results := [.lit (.bool false)], args := [d] }
  | _ => none }
def PfxKindsWrongFalsely : Prop := pfxKindsRow.holds Try.pinned (OpenSpec.ofChange pfxKindsWrong)

/-- 'dragomanlaw04.PfxOne': WHATEVER THE INPUT: true; the input reads as it did. -/
def pfxOneSpec : ChangeSpec := { name := "pfxOne", fn := fun _ => fun
  | [d1, d2] => { results := [.lit (.bool true)], args := [d1, d2] }
  | _ => none }
def pfxOneRow : OpenClaim := { program := "ytbdejnnbpdgjlaa", sum := "e72a45b6a74f09d275fe4b67eb9b4d450390797007d2c51a4c6114e39b5430d3", func := "dragoman/dragomanlaw04.PfxOne", spec := "pfxOne", unfollowed := true, recurses := true, apart := false }
def PfxOneSaid : Prop := pfxOneRow.holds Try.pinned (OpenSpec.ofChange pfxOneSpec)

/-- ITS FALSE NEIGHBOUR: 'it returns false'. Refute it at one input. -/
def pfxOneWrong : ChangeSpec := { name := "pfxOne", fn := fun _ => fun
  | [d1, d2] => { results := [.lit (.bool false)], args := [d1, d2] }
  | _ => none }
def PfxOneWrongFalsely : Prop := pfxOneRow.holds Try.pinned (OpenSpec.ofChange pfxOneWrong)

/-- 'dragomanlaw25.MsgReads': WHATEVER THE INPUT: true; the input reads as it did. -/
def msgReadsSpec : ChangeSpec := { name := "msgReads", fn := fun _ => fun
  | [d] => { results := [.lit (.bool true)], args := [d] }
  | _ => none }
def msgReadsRow : OpenClaim := { program := "ytbdejnnbpdgjlaa", sum := "e72a45b6a74f09d275fe4b67eb9b4d450390797007d2c51a4c6114e39b5430d3", func := "dragoman/dragomanlaw25.MsgReads", spec := "msgReads", inPlace := ["internal/bytealg.MakeNoZero"], unfollowed := true, recurses := true, apart := false }
def MsgReadsSaid : Prop := msgReadsRow.holds Try.pinned (OpenSpec.ofChange msgReadsSpec)

/-- ITS FALSE NEIGHBOUR: 'it returns false'. Refute it at one input. -/
def msgReadsWrong : ChangeSpec := { name := "msgReads", fn := fun _ => fun
  | [d] => { results := [.lit (.bool false)], args := [d] }
  | _ => none }
def MsgReadsWrongFalsely : Prop := msgReadsRow.holds Try.pinned (OpenSpec.ofChange msgReadsWrong)

/-- 'dragomanlaw25.MsgBack': WHATEVER THE INPUT: true; the input reads as it did. -/
def msgBackSpec : ChangeSpec := { name := "msgBack", fn := fun _ => fun
  | [d1, d2, d3] => { results := [.lit (.bool true)], args := [d1, d2, d3] }
  | _ => none }
def msgBackRow : OpenClaim := { program := "ytbdejnnbpdgjlaa", sum := "e72a45b6a74f09d275fe4b67eb9b4d450390797007d2c51a4c6114e39b5430d3", func := "dragoman/dragomanlaw25.MsgBack", spec := "msgBack", inPlace := ["internal/bytealg.MakeNoZero"], unfollowed := true, recurses := true, apart := false }
def MsgBackSaid : Prop := msgBackRow.holds Try.pinned (OpenSpec.ofChange msgBackSpec)

/-- ITS FALSE NEIGHBOUR: 'it returns false'. Refute it at one input. -/
def msgBackWrong : ChangeSpec := { name := "msgBack", fn := fun _ => fun
  | [d1, d2, d3] => { results := [.lit (.bool false)], args := [d1, d2, d3] }
  | _ => none }
def MsgBackWrongFalsely : Prop := msgBackRow.holds Try.pinned (OpenSpec.ofChange msgBackWrong)

/-- 'dragomanlaw25.MsgAgain': WHATEVER THE INPUT: true; the input reads as it did. -/
def msgAgainSpec : ChangeSpec := { name := "msgAgain", fn := fun _ => fun
  | [d1, d2] => { results := [.lit (.bool true)], args := [d1, d2] }
  | _ => none }
def msgAgainRow : OpenClaim := { program := "ytbdejnnbpdgjlaa", sum := "e72a45b6a74f09d275fe4b67eb9b4d450390797007d2c51a4c6114e39b5430d3", func := "dragoman/dragomanlaw25.MsgAgain", spec := "msgAgain", inPlace := ["internal/bytealg.MakeNoZero"], unfollowed := true, recurses := true, apart := false }
def MsgAgainSaid : Prop := msgAgainRow.holds Try.pinned (OpenSpec.ofChange msgAgainSpec)

/-- ITS FALSE NEIGHBOUR: 'it returns false'. Refute it at one input. -/
def msgAgainWrong : ChangeSpec := { name := "msgAgain", fn := fun _ => fun
  | [d1, d2] => { results := [.lit (.bool false)], args := [d1, d2] }
  | _ => none }
def MsgAgainWrongFalsely : Prop := msgAgainRow.holds Try.pinned (OpenSpec.ofChange msgAgainWrong)

/-- 'dragomanlaw25.MsgCodes': WHATEVER THE INPUT: true; the input reads as it did. -/
def msgCodesSpec : ChangeSpec := { name := "msgCodes", fn := fun _ => fun
  | [d] => { results := [.lit (.bool true)], args := [d] }
  | _ => none }
def msgCodesRow : OpenClaim := { program := "ytbdejnnbpdgjlaa", sum := "e72a45b6a74f09d275fe4b67eb9b4d450390797007d2c51a4c6114e39b5430d3", func := "dragoman/dragomanlaw25.MsgCodes", spec := "msgCodes", inPlace := ["internal/bytealg.MakeNoZero"], unfollowed := true, recurses := true, apart := false }
def MsgCodesSaid : Prop := msgCodesRow.holds Try.pinned (OpenSpec.ofChange msgCodesSpec)

/-- ITS FALSE NEIGHBOUR: 'it returns false'. Refute it at one input. -/
def msgCodesWrong : ChangeSpec := { name := "msgCodes", fn := fun _ => fun
  | [d] => { results := [.lit (.bool false)], args := [d] }
  | _ => none }
def MsgCodesWrongFalsely : Prop := msgCodesRow.holds Try.pinned (OpenSpec.ofChange msgCodesWrong)

/-- 'dragomanlaw27.PeerPieces': WHATEVER THE INPUT: true; the input reads as it did. -/
def peerPiecesSpec : ChangeSpec := { name := "peerPieces", fn := fun _ => fun
  | [d1, d2, d3] => { results := [.lit (.bool true)], args := [d1, d2, d3] }
  | _ => none }
def peerPiecesRow : OpenClaim := { program := "ytbdejnnbpdgjlaa", sum := "e72a45b6a74f09d275fe4b67eb9b4d450390797007d2c51a4c6114e39b5430d3", func := "dragoman/dragomanlaw27.PeerPieces", spec := "peerPieces", inPlace := ["internal/bytealg.MakeNoZero"], unfollowed := true, recurses := true, apart := false }
def PeerPiecesSaid : Prop := peerPiecesRow.holds Try.pinned (OpenSpec.ofChange peerPiecesSpec)

/-- ITS FALSE NEIGHBOUR: 'it returns false'. Refute it at one input. -/
def peerPiecesWrong : ChangeSpec := { name := "peerPieces", fn := fun _ => fun
  | [d1, d2, d3] => { results := [.lit (.bool false)], args := [d1, d2, d3] }
  | _ => none }
def PeerPiecesWrongFalsely : Prop := peerPiecesRow.holds Try.pinned (OpenSpec.ofChange peerPiecesWrong)

/-- 'dragomanlaw27.PeerMeet': WHATEVER THE INPUT: true; the input reads as it did. -/
def peerMeetSpec : ChangeSpec := { name := "peerMeet", fn := fun _ => fun
  | [d1, d2, d3] => { results := [.lit (.bool true)], args := [d1, d2, d3] }
  | _ => none }
def peerMeetRow : OpenClaim := { program := "ytbdejnnbpdgjlaa", sum := "e72a45b6a74f09d275fe4b67eb9b4d450390797007d2c51a4c6114e39b5430d3", func := "dragoman/dragomanlaw27.PeerMeet", spec := "peerMeet", inPlace := ["internal/bytealg.MakeNoZero"], unfollowed := true, recurses := true, apart := false }
def PeerMeetSaid : Prop := peerMeetRow.holds Try.pinned (OpenSpec.ofChange peerMeetSpec)

/-- ITS FALSE NEIGHBOUR: 'it returns false'. Refute it at one input. -/
def peerMeetWrong : ChangeSpec := { name := "peerMeet", fn := fun _ => fun
  | [d1, d2, d3] => { results := [.lit (.bool false)], args := [d1, d2, d3] }
  | _ => none }
def PeerMeetWrongFalsely : Prop := peerMeetRow.holds Try.pinned (OpenSpec.ofChange peerMeetWrong)

/-- 'dragomanlaw27.PeerTurns': WHATEVER THE INPUT: true; the input reads as it did. -/
def peerTurnsSpec : ChangeSpec := { name := "peerTurns", fn := fun _ => fun
  | [d1, d2] => { results := [.lit (.bool true)], args := [d1, d2] }
  | _ => none }
def peerTurnsRow : OpenClaim := { program := "ytbdejnnbpdgjlaa", sum := "e72a45b6a74f09d275fe4b67eb9b4d450390797007d2c51a4c6114e39b5430d3", func := "dragoman/dragomanlaw27.PeerTurns", spec := "peerTurns", inPlace := ["internal/bytealg.MakeNoZero"], unfollowed := true, recurses := true, apart := false }
def PeerTurnsSaid : Prop := peerTurnsRow.holds Try.pinned (OpenSpec.ofChange peerTurnsSpec)

/-- ITS FALSE NEIGHBOUR: 'it returns false'. Refute it at one input. -/
def peerTurnsWrong : ChangeSpec := { name := "peerTurns", fn := fun _ => fun
  | [d1, d2] => { results := [.lit (.bool false)], args := [d1, d2] }
  | _ => none }
def PeerTurnsWrongFalsely : Prop := peerTurnsRow.holds Try.pinned (OpenSpec.ofChange peerTurnsWrong)

/- THE SECOND FORM. 'bulk': how many values and letters a reading holds, each counted each time it is reached (what is shared counts as often as it is met; a slice's spare places count too). A statement '..UptoSaid' is the law's where the arguments, and the package variables that the reading takes, are together of bulk at most 1048576: NARROWER than '..Said'. Prove '..Said' where nothing that the law and all that it calls make is longer than what came in: it says more and counts as full. Else prove '..UptoSaid'. A law counts once. -/
mutual
def uptoBulk {H : Type} : DataW H → Nat
  | .lit (.string bytes) => bytes.length + 1
  | .lit _ => 1
  | .nil => 1
  | .ptr d => uptoBulk d + 1
  | .slice elems spare => uptoBulkAll elems + uptoBulkAll spare + 1
  | .agg parts => uptoBulkAll parts + 1
  | .iface _ d => uptoBulk d + 1
  | .map entries => uptoBulkEntries entries + 1
  | .held _ => 1
def uptoBulkAll {H : Type} : List (DataW H) → Nat
  | [] => 0
  | d :: r => uptoBulk d + uptoBulkAll r
def uptoBulkEntries {H : Type} : List (Lit × DataW H) → Nat
  | [] => 0
  | x :: r => uptoBulkEntry x + uptoBulkEntries r
def uptoBulkEntry {H : Type} : Lit × DataW H → Nat
  | (.string bytes, d) => bytes.length + uptoBulk d + 1
  | (_, d) => uptoBulk d + 1
 end
def uptoSmall : (H : Type) → List (DataW H) → Bool := fun _ ds => decide (uptoBulkAll ds ≤ 1048576)
def OpenSpec.upto (s : _root_.Go.ChangeSpec) : _root_.Go.OpenSpec := { _root_.Go.OpenSpec.ofChange s with cond := some uptoSmall }

/-- 'dragomanlaw04.PfxKinds', WHERE WHAT IT READS IS OF BULK AT MOST 1048576: true; the input reads as it did. -/
def pfxKindsUptoRow : OpenClaim := { program := "ytbdejnnbpdgjlaa", sum := "e72a45b6a74f09d275fe4b67eb9b4d450390797007d2c51a4c6114e39b5430d3", func := "dragoman/dragomanlaw04.PfxKinds", spec := "pfxKinds", unfollowed := true, recurses := true, apart := false, narrowed := true }
def PfxKindsUptoSaid : Prop := pfxKindsUptoRow.holds Try.pinned (OpenSpec.upto pfxKindsSpec)

/-- 'dragomanlaw04.PfxOne', WHERE WHAT IT READS IS OF BULK AT MOST 1048576: true; the input reads as it did. -/
def pfxOneUptoRow : OpenClaim := { program := "ytbdejnnbpdgjlaa", sum := "e72a45b6a74f09d275fe4b67eb9b4d450390797007d2c51a4c6114e39b5430d3", func := "dragoman/dragomanlaw04.PfxOne", spec := "pfxOne", unfollowed := true, recurses := true, apart := false, narrowed := true }
def PfxOneUptoSaid : Prop := pfxOneUptoRow.holds Try.pinned (OpenSpec.upto pfxOneSpec)

/-- 'dragomanlaw25.MsgReads', WHERE WHAT IT READS IS OF BULK AT MOST 1048576: true; the input reads as it did. -/
def msgReadsUptoRow : OpenClaim := { program := "ytbdejnnbpdgjlaa", sum := "e72a45b6a74f09d275fe4b67eb9b4d450390797007d2c51a4c6114e39b5430d3", func := "dragoman/dragomanlaw25.MsgReads", spec := "msgReads", inPlace := ["internal/bytealg.MakeNoZero"], unfollowed := true, recurses := true, apart := false, narrowed := true }
def MsgReadsUptoSaid : Prop := msgReadsUptoRow.holds Try.pinned (OpenSpec.upto msgReadsSpec)

/-- 'dragomanlaw25.MsgBack', WHERE WHAT IT READS IS OF BULK AT MOST 1048576: true; the input reads as it did. -/
def msgBackUptoRow : OpenClaim := { program := "ytbdejnnbpdgjlaa", sum := "e72a45b6a74f09d275fe4b67eb9b4d450390797007d2c51a4c6114e39b5430d3", func := "dragoman/dragomanlaw25.MsgBack", spec := "msgBack", inPlace := ["internal/bytealg.MakeNoZero"], unfollowed := true, recurses := true, apart := false, narrowed := true }
def MsgBackUptoSaid : Prop := msgBackUptoRow.holds Try.pinned (OpenSpec.upto msgBackSpec)

/-- 'dragomanlaw25.MsgAgain', WHERE WHAT IT READS IS OF BULK AT MOST 1048576: true; the input reads as it did. -/
def msgAgainUptoRow : OpenClaim := { program := "ytbdejnnbpdgjlaa", sum := "e72a45b6a74f09d275fe4b67eb9b4d450390797007d2c51a4c6114e39b5430d3", func := "dragoman/dragomanlaw25.MsgAgain", spec := "msgAgain", inPlace := ["internal/bytealg.MakeNoZero"], unfollowed := true, recurses := true, apart := false, narrowed := true }
def MsgAgainUptoSaid : Prop := msgAgainUptoRow.holds Try.pinned (OpenSpec.upto msgAgainSpec)

/-- 'dragomanlaw25.MsgCodes', WHERE WHAT IT READS IS OF BULK AT MOST 1048576: true; the input reads as it did. -/
def msgCodesUptoRow : OpenClaim := { program := "ytbdejnnbpdgjlaa", sum := "e72a45b6a74f09d275fe4b67eb9b4d450390797007d2c51a4c6114e39b5430d3", func := "dragoman/dragomanlaw25.MsgCodes", spec := "msgCodes", inPlace := ["internal/bytealg.MakeNoZero"], unfollowed := true, recurses := true, apart := false, narrowed := true }
def MsgCodesUptoSaid : Prop := msgCodesUptoRow.holds Try.pinned (OpenSpec.upto msgCodesSpec)

/-- 'dragomanlaw27.PeerPieces', WHERE WHAT IT READS IS OF BULK AT MOST 1048576: true; the input reads as it did. -/
def peerPiecesUptoRow : OpenClaim := { program := "ytbdejnnbpdgjlaa", sum := "e72a45b6a74f09d275fe4b67eb9b4d450390797007d2c51a4c6114e39b5430d3", func := "dragoman/dragomanlaw27.PeerPieces", spec := "peerPieces", inPlace := ["internal/bytealg.MakeNoZero"], unfollowed := true, recurses := true, apart := false, narrowed := true }
def PeerPiecesUptoSaid : Prop := peerPiecesUptoRow.holds Try.pinned (OpenSpec.upto peerPiecesSpec)

/-- 'dragomanlaw27.PeerMeet', WHERE WHAT IT READS IS OF BULK AT MOST 1048576: true; the input reads as it did. -/
def peerMeetUptoRow : OpenClaim := { program := "ytbdejnnbpdgjlaa", sum := "e72a45b6a74f09d275fe4b67eb9b4d450390797007d2c51a4c6114e39b5430d3", func := "dragoman/dragomanlaw27.PeerMeet", spec := "peerMeet", inPlace := ["internal/bytealg.MakeNoZero"], unfollowed := true, recurses := true, apart := false, narrowed := true }
def PeerMeetUptoSaid : Prop := peerMeetUptoRow.holds Try.pinned (OpenSpec.upto peerMeetSpec)

/-- 'dragomanlaw27.PeerTurns', WHERE WHAT IT READS IS OF BULK AT MOST 1048576: true; the input reads as it did. -/
def peerTurnsUptoRow : OpenClaim := { program := "ytbdejnnbpdgjlaa", sum := "e72a45b6a74f09d275fe4b67eb9b4d450390797007d2c51a4c6114e39b5430d3", func := "dragoman/dragomanlaw27.PeerTurns", spec := "peerTurns", inPlace := ["internal/bytealg.MakeNoZero"], unfollowed := true, recurses := true, apart := false, narrowed := true }
def PeerTurnsUptoSaid : Prop := peerTurnsUptoRow.holds Try.pinned (OpenSpec.upto peerTurnsSpec)

end Rows
end Go.Proofs.Ytbdejnnbpdgjlaa
