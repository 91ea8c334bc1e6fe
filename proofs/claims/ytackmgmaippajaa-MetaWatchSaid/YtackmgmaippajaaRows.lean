/-
  No cell of these rows narrows 'for every input' (looked for: loops, veiled, ifaces, maps, wideKeys, modest, calm, conditions, laid).
  DERIVED. THE GIVEN ROWS OF THIS SEAT. 3 by the template 'for every input the law returns true; each argument reads behind the call as it read before'; 0 by the template 'total and deterministic' (their statements: YtackmgmaippajaaTotals.lean).
  GIVEN WITH THE SEED: the statements are not yours to turn. If you find one false, say at which input.
  Laid BY PROGRAM, IN A SANDBOX (cutbox-rows.mjs): the forced cells as the released guide's own fill.sh prints them over the translation 7263dbb9736a3b42… (all of the seat's roots in one cut). By AI agents, Wed Nov 11 2026. No macro, syntax, notation, axiom, sorry.
-/
import Derived.Test.YtackmgmaippajaaChecked
import GoSem.Claim
import GoSem.ClaimJoined
import GoSem.ClaimMapViews
import Derived.JoinedTies
import Derived.KernelRfl
namespace Go.Proofs.Ytackmgmaippajaa
/- THE CELL 'sum', in the pinned program and in every row, IS THE sha256 OF THE DUMP (.gsa) THAT YtackmgmaippajaaProg.lean LOADS. Nothing in Lean hashes anything: it is a label: what it is worth is what the hold of that sum in a sandbox is worth. -/
noncomputable def Try.pinned : Pinned := { name := "ytackmgmaippajaa", sum := "7263dbb9736a3b4227ef9fee4fa0ffeb53d563a54a43c67485df266b718f3581", checked := Try.checked }
namespace Rows
def none {H : Type} : Left H := { results := [], args := [] }

/-- 'mailcoachlaw08.MetaWatch': WHATEVER THE INPUT: true; the input reads as it did. -/
def metaWatchSpec : ChangeSpec := { name := "metaWatch", fn := fun _ => fun
  | [d] => { results := [.lit (.bool true)], args := [d] }
  | _ => none }
def metaWatchRow : OpenClaim := { program := "ytackmgmaippajaa", sum := "7263dbb9736a3b4227ef9fee4fa0ffeb53d563a54a43c67485df266b718f3581", func := "mailcoach/mailcoachlaw08.MetaWatch", spec := "metaWatch", inPlace := ["internal/bytealg.abigen_runtime_cmpstring", "slices.overlaps[mailcoach/api.Node]"], unfollowed := true, recurses := true, apart := false }
def MetaWatchSaid : Prop := metaWatchRow.holds Try.pinned (OpenSpec.ofChange metaWatchSpec)

/-- ITS FALSE NEIGHBOUR: 'it returns false'. Refute it at one input. -/
def metaWatchWrong : ChangeSpec := { name := "metaWatch", fn := fun _ => fun
  | [d] => { results := [.lit (.bool false)], args := [d] }
  | _ => none }
def MetaWatchWrongFalsely : Prop := metaWatchRow.holds Try.pinned (OpenSpec.ofChange metaWatchWrong)

/-- 'mailcoachlaw08.MetaLeases': WHATEVER THE INPUT: true; the input reads as it did. -/
def metaLeasesSpec : ChangeSpec := { name := "metaLeases", fn := fun _ => fun
  | [d1, d2, d3] => { results := [.lit (.bool true)], args := [d1, d2, d3] }
  | _ => none }
def metaLeasesRow : OpenClaim := { program := "ytackmgmaippajaa", sum := "7263dbb9736a3b4227ef9fee4fa0ffeb53d563a54a43c67485df266b718f3581", func := "mailcoach/mailcoachlaw08.MetaLeases", spec := "metaLeases", inPlace := ["internal/bytealg.abigen_runtime_cmpstring", "slices.overlaps[mailcoach/api.Node]"], unfollowed := true, recurses := true, apart := false }
def MetaLeasesSaid : Prop := metaLeasesRow.holds Try.pinned (OpenSpec.ofChange metaLeasesSpec)

/-- ITS FALSE NEIGHBOUR: 'it returns false'. Refute it at one input. -/
def metaLeasesWrong : ChangeSpec := { name := "metaLeases", fn := fun _ => fun
  | [d1, d2, d3] => { results := [.lit (.bool false)], args := [d1, d2, d3] }
  | _ => none }
def MetaLeasesWrongFalsely : Prop := metaLeasesRow.holds Try.pinned (OpenSpec.ofChange metaLeasesWrong)

/-- 'mailcoachlaw08.MetaNil': WHATEVER THE INPUT: true; the input reads as it did. -/
def metaNilSpec : ChangeSpec := { name := "metaNil", fn := fun _ => fun
  | [d] => { results := [.lit (.bool true)], args := [d] }
  | _ => none }
def metaNilRow : OpenClaim := { program := "ytackmgmaippajaa", sum := "7263dbb9736a3b4227ef9fee4fa0ffeb53d563a54a43c67485df266b718f3581", func := "mailcoach/mailcoachlaw08.MetaNil", spec := "metaNil", inPlace := ["internal/bytealg.abigen_runtime_cmpstring", "slices.overlaps[mailcoach/api.Node]"], unfollowed := true, recurses := true, apart := false }
def MetaNilSaid : Prop := metaNilRow.holds Try.pinned (OpenSpec.ofChange metaNilSpec)

/-- ITS FALSE NEIGHBOUR: 'it returns false'. Refute it at one input. -/
def metaNilWrong : ChangeSpec := { name := "metaNil", fn := fun _ => fun
  | [d] => { results := [.lit (.bool false)], args := [d] }
  | _ => none }
def MetaNilWrongFalsely : Prop := metaNilRow.holds Try.pinned (OpenSpec.ofChange metaNilWrong)

/- THE SECOND FORM. 'bulk': how many values and letters a reading holds, each counted each time it is reached (what is shared counts as often as it is met; a slice's spare places count too). A statement '..UptoSaid' is the law's where the arguments, and the package variables that the reading takes, are together of bulk at most 1048576: NARROWER than '..Said'. Prove '..Said' where nothing that the law and all that it calls make is longer than what came in: it says more and counts as full. Else prove '..UptoSaid'. A law counts once. -/
mutual
def uptoBulk {H : Type} : DataW H → Nat
  | .lit (.string bytes) => bytes.length + 1
  | .lit _ => 1
  | .nil => 1
  | .ptr d => uptoBulk d + 1
  | .slice elems spare => uptoBulkAll elems + uptoBulkAll spare + 1
  | .agg parts => uptoBulkAll parts + 1
  | .iface _ d => uptoBulk d + 1
  | .map entries => uptoBulkEntries entries + 1
  | .held _ => 1
def uptoBulkAll {H : Type} : List (DataW H) → Nat
  | [] => 0
  | d :: r => uptoBulk d + uptoBulkAll r
def uptoBulkEntries {H : Type} : List (Lit × DataW H) → Nat
  | [] => 0
  | x :: r => uptoBulkEntry x + uptoBulkEntries r
def uptoBulkEntry {H : Type} : Lit × DataW H → Nat
  | (.string bytes, d) => bytes.length + uptoBulk d + 1
  | (_, d) => uptoBulk d + 1
 end
def uptoSmall : (H : Type) → List (DataW H) → Bool := fun _ ds => decide (uptoBulkAll ds ≤ 1048576)
def OpenSpec.upto (s : _root_.Go.ChangeSpec) : _root_.Go.OpenSpec := { _root_.Go.OpenSpec.ofChange s with cond := some uptoSmall }

/-- 'mailcoachlaw08.MetaWatch', WHERE WHAT IT READS IS OF BULK AT MOST 1048576: true; the input reads as it did. -/
def metaWatchUptoRow : OpenClaim := { program := "ytackmgmaippajaa", sum := "7263dbb9736a3b4227ef9fee4fa0ffeb53d563a54a43c67485df266b718f3581", func := "mailcoach/mailcoachlaw08.MetaWatch", spec := "metaWatch", inPlace := ["internal/bytealg.abigen_runtime_cmpstring", "slices.overlaps[mailcoach/api.Node]"], unfollowed := true, recurses := true, apart := false, narrowed := true }
def MetaWatchUptoSaid : Prop := metaWatchUptoRow.holds Try.pinned (OpenSpec.upto metaWatchSpec)

/-- 'mailcoachlaw08.MetaLeases', WHERE WHAT IT READS IS OF BULK AT MOST 1048576: true; the input reads as it did. -/
def metaLeasesUptoRow : OpenClaim := { program := "ytackmgmaippajaa", sum := "7263dbb9736a3b4227ef9fee4fa0ffeb53d563a54a43c67485df266b718f3581", func := "mailcoach/mailcoachlaw08.MetaLeases", spec := "metaLeases", inPlace := ["internal/bytealg.abigen_runtime_cmpstring", "slices.overlaps[mailcoach/api.Node]"], unfollowed := true, recurses := true, apart := false, narrowed := true }
def MetaLeasesUptoSaid : Prop := metaLeasesUptoRow.holds Try.pinned (OpenSpec.upto metaLeasesSpec)

/-- 'mailcoachlaw08.MetaNil', WHERE WHAT IT READS IS OF BULK AT MOST 1048576: true; the input reads as it did. -/
def metaNilUptoRow : OpenClaim := { program := "ytackmgmaippajaa", sum := "7263dbb9736a3b4227ef9fee4fa0ffeb53d563a54a43c67485df266b718f3581", func := "mailcoach/mailcoachlaw08.MetaNil", spec := "metaNil", inPlace := ["internal/bytealg.abigen_runtime_cmpstring", "slices.overlaps[mailcoach/api.Node]"], unfollowed := true, recurses := true, apart := false, narrowed := true }
def MetaNilUptoSaid : Prop := metaNilUptoRow.holds Try.pinned (OpenSpec.upto metaNilSpec)

end Rows
end Go.Proofs.Ytackmgmaippajaa
