/-
  No cell of these rows narrows 'for every input' (looked for: loops, veiled, ifaces, maps, wideKeys, modest, calm, conditions, laid).
  DERIVED. THE GIVEN ROWS OF THIS SEAT. 7 by the template 'for every input the law returns true; each argument reads behind the call as it read before'; 0 by the template 'total and deterministic' (their statements: YtgodnlcjbfdkhaaTotals.lean).
  GIVEN WITH THE SEED: the statements are not yours to turn. If you find one false, say at which input.
  Laid BY PROGRAM, IN A SANDBOX (cutbox-rows.mjs): the forced cells as the released guide's own fill.sh prints them over the translation 6c89567864059069… (all of the seat's roots in one cut). By AI agents, Wed Nov 11 2026. No macro, syntax, notation, axiom, sorry.
-/
import Derived.Test.YtgodnlcjbfdkhaaChecked
import GoSem.Claim
import GoSem.ClaimJoined
import GoSem.ClaimMapViews
import Derived.JoinedTies
import Derived.KernelRfl
namespace Go.Proofs.Ytgodnlcjbfdkhaa
/- THE CELL 'sum', in the pinned program and in every row, IS THE sha256 OF THE DUMP (.gsa) THAT YtgodnlcjbfdkhaaProg.lean LOADS. Nothing in Lean hashes anything: it is a label: what it is worth is what the hold of that sum in a sandbox is worth. -/
noncomputable def Try.pinned : Pinned := { name := "ytgodnlcjbfdkhaa", sum := "6c89567864059069b87cdbc5278e4a9a241d0da4df0afdff59e98ee5ab3d6b77", checked := Try.checked }
namespace Rows
def none {H : Type} : Left H := { results := [], args := [] }

/-- 'mailcoachlaw02.PackPanics': WHATEVER THE INPUT: true; the input reads as it did. -/
def packPanicsSpec : ChangeSpec := { name := "packPanics", fn := fun _ => fun
  | [d1, d2, d3] => { results := [.lit (.bool true)], args := [d1, d2, d3] }
  | _ => none }
def packPanicsRow : OpenClaim := { program := "ytgodnlcjbfdkhaa", sum := "6c89567864059069b87cdbc5278e4a9a241d0da4df0afdff59e98ee5ab3d6b77", func := "mailcoach/mailcoachlaw02.PackPanics", spec := "packPanics", unfollowed := true, recurses := true, apart := false }
def PackPanicsSaid : Prop := packPanicsRow.holds Try.pinned (OpenSpec.ofChange packPanicsSpec)

/-- ITS FALSE NEIGHBOUR: 'it returns false'. Refute it at one input. -/
def packPanicsWrong : ChangeSpec := { name := "packPanics", fn := fun _ => fun
  | [d1, d2, d3] => { results := [.lit (.bool false)], args := [d1, d2, d3] }
  | _ => none }
def PackPanicsWrongFalsely : Prop := packPanicsRow.holds Try.pinned (OpenSpec.ofChange packPanicsWrong)

/-- 'mailcoachlaw02.PackApart': WHATEVER THE INPUT: true; the input reads as it did. -/
def packApartSpec : ChangeSpec := { name := "packApart", fn := fun _ => fun
  | [d1, d2] => { results := [.lit (.bool true)], args := [d1, d2] }
  | _ => none }
def packApartRow : OpenClaim := { program := "ytgodnlcjbfdkhaa", sum := "6c89567864059069b87cdbc5278e4a9a241d0da4df0afdff59e98ee5ab3d6b77", func := "mailcoach/mailcoachlaw02.PackApart", spec := "packApart", unfollowed := true, recurses := true, apart := false }
def PackApartSaid : Prop := packApartRow.holds Try.pinned (OpenSpec.ofChange packApartSpec)

/-- ITS FALSE NEIGHBOUR: 'it returns false'. Refute it at one input. -/
def packApartWrong : ChangeSpec := { name := "packApart", fn := fun _ => fun
  | [d1, d2] => { results := [.lit (.bool false)], args := [d1, d2] }
  | _ => none }
def PackApartWrongFalsely : Prop := packApartRow.holds Try.pinned (OpenSpec.ofChange packApartWrong)

/-- 'mailcoachlaw02.PackPuts': WHATEVER THE INPUT: true; the input reads as it did. -/
def packPutsSpec : ChangeSpec := { name := "packPuts", fn := fun _ => fun
  | [d] => { results := [.lit (.bool true)], args := [d] }
  | _ => none }
def packPutsRow : OpenClaim := { program := "ytgodnlcjbfdkhaa", sum := "6c89567864059069b87cdbc5278e4a9a241d0da4df0afdff59e98ee5ab3d6b77", func := "mailcoach/mailcoachlaw02.PackPuts", spec := "packPuts", unfollowed := true, recurses := true, apart := false }
def PackPutsSaid : Prop := packPutsRow.holds Try.pinned (OpenSpec.ofChange packPutsSpec)

/-- ITS FALSE NEIGHBOUR: 'it returns false'. Refute it at one input. -/
def packPutsWrong : ChangeSpec := { name := "packPuts", fn := fun _ => fun
  | [d] => { results := [.lit (.bool false)], args := [d] }
  | _ => none }
def PackPutsWrongFalsely : Prop := packPutsRow.holds Try.pinned (OpenSpec.ofChange packPutsWrong)

/-- 'mailcoachlaw02.PackBack': WHATEVER THE INPUT: true; the input reads as it did. -/
def packBackSpec : ChangeSpec := { name := "packBack", fn := fun _ => fun
  | [d1, d2] => { results := [.lit (.bool true)], args := [d1, d2] }
  | _ => none }
def packBackRow : OpenClaim := { program := "ytgodnlcjbfdkhaa", sum := "6c89567864059069b87cdbc5278e4a9a241d0da4df0afdff59e98ee5ab3d6b77", func := "mailcoach/mailcoachlaw02.PackBack", spec := "packBack", unfollowed := true, recurses := true, apart := false }
def PackBackSaid : Prop := packBackRow.holds Try.pinned (OpenSpec.ofChange packBackSpec)

/-- ITS FALSE NEIGHBOUR: 'it returns false'. Refute it at one input. -/
def packBackWrong : ChangeSpec := { name := "packBack", fn := fun _ => fun
  | [d1, d2] => { results := [.lit (.bool false)], args := [d1, d2] }
  | _ => none }
def PackBackWrongFalsely : Prop := packBackRow.holds Try.pinned (OpenSpec.ofChange packBackWrong)

/-- 'mailcoachlaw02.PackFrames': WHATEVER THE INPUT: true; the input reads as it did. -/
def packFramesSpec : ChangeSpec := { name := "packFrames", fn := fun _ => fun
  | [d] => { results := [.lit (.bool true)], args := [d] }
  | _ => none }
def packFramesRow : OpenClaim := { program := "ytgodnlcjbfdkhaa", sum := "6c89567864059069b87cdbc5278e4a9a241d0da4df0afdff59e98ee5ab3d6b77", func := "mailcoach/mailcoachlaw02.PackFrames", spec := "packFrames", unfollowed := true, recurses := true, apart := false }
def PackFramesSaid : Prop := packFramesRow.holds Try.pinned (OpenSpec.ofChange packFramesSpec)

/-- ITS FALSE NEIGHBOUR: 'it returns false'. Refute it at one input. -/
def packFramesWrong : ChangeSpec := { name := "packFrames", fn := fun _ => fun
  | [d] => { results := [.lit (.bool false)], args := [d] }
  | _ => none }
def PackFramesWrongFalsely : Prop := packFramesRow.holds Try.pinned (OpenSpec.ofChange packFramesWrong)

/-- 'mailcoachlaw02.PackTurned': WHATEVER THE INPUT: true; the input reads as it did. -/
def packTurnedSpec : ChangeSpec := { name := "packTurned", fn := fun _ => fun
  | [d1, d2, d3, d4] => { results := [.lit (.bool true)], args := [d1, d2, d3, d4] }
  | _ => none }
def packTurnedRow : OpenClaim := { program := "ytgodnlcjbfdkhaa", sum := "6c89567864059069b87cdbc5278e4a9a241d0da4df0afdff59e98ee5ab3d6b77", func := "mailcoach/mailcoachlaw02.PackTurned", spec := "packTurned", unfollowed := true, recurses := true, apart := false }
def PackTurnedSaid : Prop := packTurnedRow.holds Try.pinned (OpenSpec.ofChange packTurnedSpec)

/-- ITS FALSE NEIGHBOUR: 'it returns false'. Refute it at one input. -/
def packTurnedWrong : ChangeSpec := { name := "packTurned", fn := fun _ => fun
  | [d1, d2, d3, d4] => { results := [.lit (.bool false)], args := [d1, d2, d3, d4] }
  | _ => none }
def PackTurnedWrongFalsely : Prop := packTurnedRow.holds Try.pinned (OpenSpec.ofChange packTurnedWrong)

/-- 'mailcoachlaw02.PackRow': WHATEVER THE INPUT: true; the input reads as it did. -/
def packRowSpec : ChangeSpec := { name := "packRow", fn := fun _ => fun
  | [d] => { results := [.lit (.bool true)], args := [d] }
  | _ => none }
def packRowRow : OpenClaim := { program := "ytgodnlcjbfdkhaa", sum := "6c89567864059069b87cdbc5278e4a9a241d0da4df0afdff59e98ee5ab3d6b77", func := "mailcoach/mailcoachlaw02.PackRow", spec := "packRow", unfollowed := true, recurses := true, apart := false }
def PackRowSaid : Prop := packRowRow.holds Try.pinned (OpenSpec.ofChange packRowSpec)

/-- ITS FALSE NEIGHBOUR: 'it returns false'. Refute it at one input. -/
def packRowWrong : ChangeSpec := { name := "packRow", fn := fun _ => fun
  | [d] => { results := [.lit (.bool false)], args := [d] }
  | _ => none }
def PackRowWrongFalsely : Prop := packRowRow.holds Try.pinned (OpenSpec.ofChange packRowWrong)

/- THE SECOND FORM. 'bulk': how many values and letters a reading holds, each counted each time it is reached (what is shared counts as often as it is met; a slice's spare places count too). A statement '..UptoSaid' is the law's where the arguments, and the package variables that the reading takes, are together of bulk at most 1048576: NARROWER than '..Said'. Prove '..Said' where nothing that the law and all that it calls make is longer than what came in: it says more and counts as full. Else prove '..UptoSaid'. A law counts once. -/
mutual
def uptoBulk {H : Type} : DataW H → Nat
  | .lit (.string bytes) => bytes.length + 1
  | .lit _ => 1
  | .nil => 1
  | .ptr d => uptoBulk d + 1
  | .slice elems spare => uptoBulkAll elems + uptoBulkAll spare + 1
  | .agg parts => uptoBulkAll parts + 1
  | .iface _ d => uptoBulk d + 1
  | .map entries => uptoBulkEntries entries + 1
  | .held _ => 1
def uptoBulkAll {H : Type} : List (DataW H) → Nat
  | [] => 0
  | d :: r => uptoBulk d + uptoBulkAll r
def uptoBulkEntries {H : Type} : List (Lit × DataW H) → Nat
  | [] => 0
  | x :: r => uptoBulkEntry x + uptoBulkEntries r
def uptoBulkEntry {H : Type} : Lit × DataW H → Nat
  | (.string bytes, d) => bytes.length + uptoBulk d + 1
  | (_, d) => uptoBulk d + 1
 end
def uptoSmall : (H : Type) → List (DataW H) → Bool := fun _ ds => decide (uptoBulkAll ds ≤ 1048576)
def OpenSpec.upto (s : _root_.Go.ChangeSpec) : _root_.Go.OpenSpec := { _root_.Go.OpenSpec.ofChange s with cond := some uptoSmall }

/-- 'mailcoachlaw02.PackPanics', WHERE WHAT IT READS IS OF BULK AT MOST 1048576: true; the input reads as it did. -/
def packPanicsUptoRow : OpenClaim := { program := "ytgodnlcjbfdkhaa", sum := "6c89567864059069b87cdbc5278e4a9a241d0da4df0afdff59e98ee5ab3d6b77", func := "mailcoach/mailcoachlaw02.PackPanics", spec := "packPanics", unfollowed := true, recurses := true, apart := false, narrowed := true }
def PackPanicsUptoSaid : Prop := packPanicsUptoRow.holds Try.pinned (OpenSpec.upto packPanicsSpec)

/-- 'mailcoachlaw02.PackApart', WHERE WHAT IT READS IS OF BULK AT MOST 1048576: true; the input reads as it did. -/
def packApartUptoRow : OpenClaim := { program := "ytgodnlcjbfdkhaa", sum := "6c89567864059069b87cdbc5278e4a9a241d0da4df0afdff59e98ee5ab3d6b77", func := "mailcoach/mailcoachlaw02.PackApart", spec := "packApart", unfollowed := true, recurses := true, apart := false, narrowed := true }
def PackApartUptoSaid : Prop := packApartUptoRow.holds Try.pinned (OpenSpec.upto packApartSpec)

/-- 'mailcoachlaw02.PackPuts', WHERE WHAT IT READS IS OF BULK AT MOST 1048576: true; the input reads as it did. -/
def packPutsUptoRow : OpenClaim := { program := "ytgodnlcjbfdkhaa", sum := "6c89567864059069b87cdbc5278e4a9a241d0da4df0afdff59e98ee5ab3d6b77", func := "mailcoach/mailcoachlaw02.PackPuts", spec := "packPuts", unfollowed := true, recurses := true, apart := false, narrowed := true }
def PackPutsUptoSaid : Prop := packPutsUptoRow.holds Try.pinned (OpenSpec.upto packPutsSpec)

/-- 'mailcoachlaw02.PackBack', WHERE WHAT IT READS IS OF BULK AT MOST 1048576: true; the input reads as it did. -/
def packBackUptoRow : OpenClaim := { program := "ytgodnlcjbfdkhaa", sum := "6c89567864059069b87cdbc5278e4a9a241d0da4df0afdff59e98ee5ab3d6b77", func := "mailcoach/mailcoachlaw02.PackBack", spec := "packBack", unfollowed := true, recurses := true, apart := false, narrowed := true }
def PackBackUptoSaid : Prop := packBackUptoRow.holds Try.pinned (OpenSpec.upto packBackSpec)

/-- 'mailcoachlaw02.PackFrames', WHERE WHAT IT READS IS OF BULK AT MOST 1048576: true; the input reads as it did. -/
def packFramesUptoRow : OpenClaim := { program := "ytgodnlcjbfdkhaa", sum := "6c89567864059069b87cdbc5278e4a9a241d0da4df0afdff59e98ee5ab3d6b77", func := "mailcoach/mailcoachlaw02.PackFrames", spec := "packFrames", unfollowed := true, recurses := true, apart := false, narrowed := true }
def PackFramesUptoSaid : Prop := packFramesUptoRow.holds Try.pinned (OpenSpec.upto packFramesSpec)

/-- 'mailcoachlaw02.PackTurned', WHERE WHAT IT READS IS OF BULK AT MOST 1048576: true; the input reads as it did. -/
def packTurnedUptoRow : OpenClaim := { program := "ytgodnlcjbfdkhaa", sum := "6c89567864059069b87cdbc5278e4a9a241d0da4df0afdff59e98ee5ab3d6b77", func := "mailcoach/mailcoachlaw02.PackTurned", spec := "packTurned", unfollowed := true, recurses := true, apart := false, narrowed := true }
def PackTurnedUptoSaid : Prop := packTurnedUptoRow.holds Try.pinned (OpenSpec.upto packTurnedSpec)

/-- 'mailcoachlaw02.PackRow', WHERE WHAT IT READS IS OF BULK AT MOST 1048576: true; the input reads as it did. -/
def packRowUptoRow : OpenClaim := { program := "ytgodnlcjbfdkhaa", sum := "6c89567864059069b87cdbc5278e4a9a241d0da4df0afdff59e98ee5ab3d6b77", func := "mailcoach/mailcoachlaw02.PackRow", spec := "packRow", unfollowed := true, recurses := true, apart := false, narrowed := true }
def PackRowUptoSaid : Prop := packRowUptoRow.holds Try.pinned (OpenSpec.upto packRowSpec)

end Rows
end Go.Proofs.Ytgodnlcjbfdkhaa
