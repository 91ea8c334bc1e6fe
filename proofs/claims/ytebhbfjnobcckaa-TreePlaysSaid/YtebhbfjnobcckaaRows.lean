/-
  No cell of these rows narrows 'for every input' (looked for: loops, veiled, ifaces, maps, wideKeys, modest, calm, conditions, laid).
  DERIVED. THE GIVEN ROWS OF THIS SEAT. 7 by the template 'for every input the law returns true; each argument reads behind the call as it read before'; 0 by the template 'total and deterministic' (their statements: YtebhbfjnobcckaaTotals.lean).
  GIVEN WITH THE SEED: the statements are not yours to turn. If you find one false, say at which input.
  Laid BY PROGRAM, IN A SANDBOX (cutbox-rows.mjs): the forced cells as the released guide's own fill.sh prints them over the translation 6deadfa3ebb3b568… (all of the seat's roots in one cut). By AI agents, Wed Nov 11 2026. No macro, syntax, notation, axiom, sorry.
-/
import Derived.Test.YtebhbfjnobcckaaChecked
import GoSem.Claim
import GoSem.ClaimJoined
import GoSem.ClaimMapViews
import Derived.JoinedTies
import Derived.KernelRfl
namespace Go.Proofs.Ytebhbfjnobcckaa
/- THE CELL 'sum', in the pinned program and in every row, IS THE sha256 OF THE DUMP (.gsa) THAT YtebhbfjnobcckaaProg.lean LOADS. Nothing in Lean hashes anything: it is a label: what it is worth is what the hold of that sum in a sandbox is worth. -/
noncomputable def Try.pinned : Pinned := { name := "ytebhbfjnobcckaa", sum := "6deadfa3ebb3b568c8741d837e4d4f43ade1ad73da967df1e7efebacd570c1fa", checked := Try.checked }
namespace Rows
def none {H : Type} : Left H := { results := [], args := [] }

/-- 'mailcoachlaw06.TreeSwaps': WHATEVER THE INPUT: true; the input reads as it did. -/
def treeSwapsSpec : ChangeSpec := { name := "treeSwaps", fn := fun _ => fun
  | [d1, d2] => { results := [.lit (.bool true)], args := [d1, d2] }
  | _ => none }
def treeSwapsRow : OpenClaim := { program := "ytebhbfjnobcckaa", sum := "6deadfa3ebb3b568c8741d837e4d4f43ade1ad73da967df1e7efebacd570c1fa", func := "mailcoach/mailcoachlaw06.TreeSwaps", spec := "treeSwaps", inPlace := ["internal/bytealg.abigen_runtime_cmpstring", "slices.overlaps[mailcoach/api.Node]"], unfollowed := true, recurses := true, apart := false }
def TreeSwapsSaid : Prop := treeSwapsRow.holds Try.pinned (OpenSpec.ofChange treeSwapsSpec)

/-- ITS FALSE NEIGHBOUR: 'it returns false'. Refute it at one input. -/
def treeSwapsWrong : ChangeSpec := { name := "treeSwaps", fn := fun _ => fun
  | [d1, d2] => { results := [.lit (.bool false)], args := [d1, d2] }
  | _ => none }
def TreeSwapsWrongFalsely : Prop := treeSwapsRow.holds Try.pinned (OpenSpec.ofChange treeSwapsWrong)

/-- 'mailcoachlaw06.TreeLoads': WHATEVER THE INPUT: true; the input reads as it did. -/
def treeLoadsSpec : ChangeSpec := { name := "treeLoads", fn := fun _ => fun
  | [d] => { results := [.lit (.bool true)], args := [d] }
  | _ => none }
def treeLoadsRow : OpenClaim := { program := "ytebhbfjnobcckaa", sum := "6deadfa3ebb3b568c8741d837e4d4f43ade1ad73da967df1e7efebacd570c1fa", func := "mailcoach/mailcoachlaw06.TreeLoads", spec := "treeLoads", inPlace := ["internal/bytealg.abigen_runtime_cmpstring", "slices.overlaps[mailcoach/api.Node]"], unfollowed := true, recurses := true, apart := false }
def TreeLoadsSaid : Prop := treeLoadsRow.holds Try.pinned (OpenSpec.ofChange treeLoadsSpec)

/-- ITS FALSE NEIGHBOUR: 'it returns false'. Refute it at one input. -/
def treeLoadsWrong : ChangeSpec := { name := "treeLoads", fn := fun _ => fun
  | [d] => { results := [.lit (.bool false)], args := [d] }
  | _ => none }
def TreeLoadsWrongFalsely : Prop := treeLoadsRow.holds Try.pinned (OpenSpec.ofChange treeLoadsWrong)

/-- 'mailcoachlaw06.TreeMany': WHATEVER THE INPUT: true; the input reads as it did. -/
def treeManySpec : ChangeSpec := { name := "treeMany", fn := fun _ => fun
  | [d1, d2] => { results := [.lit (.bool true)], args := [d1, d2] }
  | _ => none }
def treeManyRow : OpenClaim := { program := "ytebhbfjnobcckaa", sum := "6deadfa3ebb3b568c8741d837e4d4f43ade1ad73da967df1e7efebacd570c1fa", func := "mailcoach/mailcoachlaw06.TreeMany", spec := "treeMany", inPlace := ["internal/bytealg.abigen_runtime_cmpstring", "slices.overlaps[mailcoach/api.Node]"], unfollowed := true, recurses := true, apart := false }
def TreeManySaid : Prop := treeManyRow.holds Try.pinned (OpenSpec.ofChange treeManySpec)

/-- ITS FALSE NEIGHBOUR: 'it returns false'. Refute it at one input. -/
def treeManyWrong : ChangeSpec := { name := "treeMany", fn := fun _ => fun
  | [d1, d2] => { results := [.lit (.bool false)], args := [d1, d2] }
  | _ => none }
def TreeManyWrongFalsely : Prop := treeManyRow.holds Try.pinned (OpenSpec.ofChange treeManyWrong)

/-- 'mailcoachlaw06.TreeNil': WHATEVER THE INPUT: true; the input reads as it did. -/
def treeNilSpec : ChangeSpec := { name := "treeNil", fn := fun _ => fun
  | [d] => { results := [.lit (.bool true)], args := [d] }
  | _ => none }
def treeNilRow : OpenClaim := { program := "ytebhbfjnobcckaa", sum := "6deadfa3ebb3b568c8741d837e4d4f43ade1ad73da967df1e7efebacd570c1fa", func := "mailcoach/mailcoachlaw06.TreeNil", spec := "treeNil", inPlace := ["internal/bytealg.abigen_runtime_cmpstring", "slices.overlaps[mailcoach/api.Node]"], unfollowed := true, recurses := true, apart := false }
def TreeNilSaid : Prop := treeNilRow.holds Try.pinned (OpenSpec.ofChange treeNilSpec)

/-- ITS FALSE NEIGHBOUR: 'it returns false'. Refute it at one input. -/
def treeNilWrong : ChangeSpec := { name := "treeNil", fn := fun _ => fun
  | [d] => { results := [.lit (.bool false)], args := [d] }
  | _ => none }
def TreeNilWrongFalsely : Prop := treeNilRow.holds Try.pinned (OpenSpec.ofChange treeNilWrong)

/-- 'mailcoachlaw06.TreeDrops': WHATEVER THE INPUT: true; the input reads as it did. -/
def treeDropsSpec : ChangeSpec := { name := "treeDrops", fn := fun _ => fun
  | [d1, d2, d3] => { results := [.lit (.bool true)], args := [d1, d2, d3] }
  | _ => none }
def treeDropsRow : OpenClaim := { program := "ytebhbfjnobcckaa", sum := "6deadfa3ebb3b568c8741d837e4d4f43ade1ad73da967df1e7efebacd570c1fa", func := "mailcoach/mailcoachlaw06.TreeDrops", spec := "treeDrops", inPlace := ["internal/bytealg.abigen_runtime_cmpstring", "slices.overlaps[mailcoach/api.Node]", "internal/abi.NoEscape", "internal/bytealg.MakeNoZero"], unfollowed := true, recurses := true, apart := false }
def TreeDropsSaid : Prop := treeDropsRow.holds Try.pinned (OpenSpec.ofChange treeDropsSpec)

/-- ITS FALSE NEIGHBOUR: 'it returns false'. Refute it at one input. -/
def treeDropsWrong : ChangeSpec := { name := "treeDrops", fn := fun _ => fun
  | [d1, d2, d3] => { results := [.lit (.bool false)], args := [d1, d2, d3] }
  | _ => none }
def TreeDropsWrongFalsely : Prop := treeDropsRow.holds Try.pinned (OpenSpec.ofChange treeDropsWrong)

/-- 'mailcoachlaw06.TreeBack': WHATEVER THE INPUT: true; the input reads as it did. -/
def treeBackSpec : ChangeSpec := { name := "treeBack", fn := fun _ => fun
  | [d1, d2] => { results := [.lit (.bool true)], args := [d1, d2] }
  | _ => none }
def treeBackRow : OpenClaim := { program := "ytebhbfjnobcckaa", sum := "6deadfa3ebb3b568c8741d837e4d4f43ade1ad73da967df1e7efebacd570c1fa", func := "mailcoach/mailcoachlaw06.TreeBack", spec := "treeBack", inPlace := ["internal/bytealg.abigen_runtime_cmpstring", "slices.overlaps[mailcoach/api.Node]", "internal/abi.NoEscape", "internal/bytealg.MakeNoZero"], unfollowed := true, recurses := true, apart := false }
def TreeBackSaid : Prop := treeBackRow.holds Try.pinned (OpenSpec.ofChange treeBackSpec)

/-- ITS FALSE NEIGHBOUR: 'it returns false'. Refute it at one input. -/
def treeBackWrong : ChangeSpec := { name := "treeBack", fn := fun _ => fun
  | [d1, d2] => { results := [.lit (.bool false)], args := [d1, d2] }
  | _ => none }
def TreeBackWrongFalsely : Prop := treeBackRow.holds Try.pinned (OpenSpec.ofChange treeBackWrong)

/-- 'mailcoachlaw06.TreePlays': WHATEVER THE INPUT: true; the input reads as it did. -/
def treePlaysSpec : ChangeSpec := { name := "treePlays", fn := fun _ => fun
  | [d] => { results := [.lit (.bool true)], args := [d] }
  | _ => none }
def treePlaysRow : OpenClaim := { program := "ytebhbfjnobcckaa", sum := "6deadfa3ebb3b568c8741d837e4d4f43ade1ad73da967df1e7efebacd570c1fa", func := "mailcoach/mailcoachlaw06.TreePlays", spec := "treePlays", inPlace := ["internal/bytealg.abigen_runtime_cmpstring", "slices.overlaps[mailcoach/api.Node]", "internal/abi.NoEscape", "internal/bytealg.MakeNoZero"], unfollowed := true, recurses := true, apart := false }
def TreePlaysSaid : Prop := treePlaysRow.holds Try.pinned (OpenSpec.ofChange treePlaysSpec)

/-- ITS FALSE NEIGHBOUR: 'it returns false'. Refute it at one input. -/
def treePlaysWrong : ChangeSpec := { name := "treePlays", fn := fun _ => fun
  | [d] => { results := [.lit (.bool false)], args := [d] }
  | _ => none }
def TreePlaysWrongFalsely : Prop := treePlaysRow.holds Try.pinned (OpenSpec.ofChange treePlaysWrong)

/- THE SECOND FORM. 'bulk': how many values and letters a reading holds, each counted each time it is reached (what is shared counts as often as it is met; a slice's spare places count too). A statement '..UptoSaid' is the law's where the arguments, and the package variables that the reading takes, are together of bulk at most 1048576: NARROWER than '..Said'. Prove '..Said' where nothing that the law and all that it calls make is longer than what came in: it says more and counts as full. Else prove '..UptoSaid'. A law counts once. -/
mutual
def uptoBulk {H : Type} : DataW H → Nat
  | .lit (.string bytes) => bytes.length + 1
  | .lit _ => 1
  | .nil => 1
  | .ptr d => uptoBulk d + 1
  | .slice elems spare => uptoBulkAll elems + uptoBulkAll spare + 1
  | .agg parts => uptoBulkAll parts + 1
  | .iface _ d => uptoBulk d + 1
  | .map entries => uptoBulkEntries entries + 1
  | .held _ => 1
def uptoBulkAll {H : Type} : List (DataW H) → Nat
  | [] => 0
  | d :: r => uptoBulk d + uptoBulkAll r
def uptoBulkEntries {H : Type} : List (Lit × DataW H) → Nat
  | [] => 0
  | x :: r => uptoBulkEntry x + uptoBulkEntries r
def uptoBulkEntry {H : Type} : Lit × DataW H → Nat
  | (.string bytes, d) => bytes.length + uptoBulk d + 1
  | (_, d) => uptoBulk d + 1
 end
def uptoSmall : (H : Type) → List (DataW H) → Bool := fun _ ds => decide (uptoBulkAll ds ≤ 1048576)
def OpenSpec.upto (s : _root_.Go.ChangeSpec) : _root_.Go.OpenSpec := { _root_.Go.OpenSpec.ofChange s with cond := some uptoSmall }

/-- 'mailcoachlaw06.TreeSwaps', WHERE WHAT IT READS IS OF BULK AT MOST 1048576: true; the input reads as it did. -/
def treeSwapsUptoRow : OpenClaim := { program := "ytebhbfjnobcckaa", sum := "6deadfa3ebb3b568c8741d837e4d4f43ade1ad73da967df1e7efebacd570c1fa", func := "mailcoach/mailcoachlaw06.TreeSwaps", spec := "treeSwaps", inPlace := ["internal/bytealg.abigen_runtime_cmpstring", "slices.overlaps[mailcoach/api.Node]"], unfollowed := true, recurses := true, apart := false, narrowed := true }
def TreeSwapsUptoSaid : Prop := treeSwapsUptoRow.holds Try.pinned (OpenSpec.upto treeSwapsSpec)

/-- 'mailcoachlaw06.TreeLoads', WHERE WHAT IT READS IS OF BULK AT MOST 1048576: true; the input reads as it did. -/
def treeLoadsUptoRow : OpenClaim := { program := "ytebhbfjnobcckaa", sum := "6deadfa3ebb3b568c8741d837e4d4f43ade1ad73da967df1e7efebacd570c1fa", func := "mailcoach/mailcoachlaw06.TreeLoads", spec := "treeLoads", inPlace := ["internal/bytealg.abigen_runtime_cmpstring", "slices.overlaps[mailcoach/api.Node]"], unfollowed := true, recurses := true, apart := false, narrowed := true }
def TreeLoadsUptoSaid : Prop := treeLoadsUptoRow.holds Try.pinned (OpenSpec.upto treeLoadsSpec)

/-- 'mailcoachlaw06.TreeMany', WHERE WHAT IT READS IS OF BULK AT MOST 1048576: true; the input reads as it did. -/
def treeManyUptoRow : OpenClaim := { program := "ytebhbfjnobcckaa", sum := "6deadfa3ebb3b568c8741d837e4d4f43ade1ad73da967df1e7efebacd570c1fa", func := "mailcoach/mailcoachlaw06.TreeMany", spec := "treeMany", inPlace := ["internal/bytealg.abigen_runtime_cmpstring", "slices.overlaps[mailcoach/api.Node]"], unfollowed := true, recurses := true, apart := false, narrowed := true }
def TreeManyUptoSaid : Prop := treeManyUptoRow.holds Try.pinned (OpenSpec.upto treeManySpec)

/-- 'mailcoachlaw06.TreeNil', WHERE WHAT IT READS IS OF BULK AT MOST 1048576: true; the input reads as it did. -/
def treeNilUptoRow : OpenClaim := { program := "ytebhbfjnobcckaa", sum := "6deadfa3ebb3b568c8741d837e4d4f43ade1ad73da967df1e7efebacd570c1fa", func := "mailcoach/mailcoachlaw06.TreeNil", spec := "treeNil", inPlace := ["internal/bytealg.abigen_runtime_cmpstring", "slices.overlaps[mailcoach/api.Node]"], unfollowed := true, recurses := true, apart := false, narrowed := true }
def TreeNilUptoSaid : Prop := treeNilUptoRow.holds Try.pinned (OpenSpec.upto treeNilSpec)

/-- 'mailcoachlaw06.TreeDrops', WHERE WHAT IT READS IS OF BULK AT MOST 1048576: true; the input reads as it did. -/
def treeDropsUptoRow : OpenClaim := { program := "ytebhbfjnobcckaa", sum := "6deadfa3ebb3b568c8741d837e4d4f43ade1ad73da967df1e7efebacd570c1fa", func := "mailcoach/mailcoachlaw06.TreeDrops", spec := "treeDrops", inPlace := ["internal/bytealg.abigen_runtime_cmpstring", "slices.overlaps[mailcoach/api.Node]", "internal/abi.NoEscape", "internal/bytealg.MakeNoZero"], unfollowed := true, recurses := true, apart := false, narrowed := true }
def TreeDropsUptoSaid : Prop := treeDropsUptoRow.holds Try.pinned (OpenSpec.upto treeDropsSpec)

/-- 'mailcoachlaw06.TreeBack', WHERE WHAT IT READS IS OF BULK AT MOST 1048576: true; the input reads as it did. -/
def treeBackUptoRow : OpenClaim := { program := "ytebhbfjnobcckaa", sum := "6deadfa3ebb3b568c8741d837e4d4f43ade1ad73da967df1e7efebacd570c1fa", func := "mailcoach/mailcoachlaw06.TreeBack", spec := "treeBack", inPlace := ["internal/bytealg.abigen_runtime_cmpstring", "slices.overlaps[mailcoach/api.Node]", "internal/abi.NoEscape", "internal/bytealg.MakeNoZero"], unfollowed := true, recurses := true, apart := false, narrowed := true }
def TreeBackUptoSaid : Prop := treeBackUptoRow.holds Try.pinned (OpenSpec.upto treeBackSpec)

/-- 'mailcoachlaw06.TreePlays', WHERE WHAT IT READS IS OF BULK AT MOST 1048576: true; the input reads as it did. -/
def treePlaysUptoRow : OpenClaim := { program := "ytebhbfjnobcckaa", sum := "6deadfa3ebb3b568c8741d837e4d4f43ade1ad73da967df1e7efebacd570c1fa", func := "mailcoach/mailcoachlaw06.TreePlays", spec := "treePlays", inPlace := ["internal/bytealg.abigen_runtime_cmpstring", "slices.overlaps[mailcoach/api.Node]", "internal/abi.NoEscape", "internal/bytealg.MakeNoZero"], unfollowed := true, recurses := true, apart := false, narrowed := true }
def TreePlaysUptoSaid : Prop := treePlaysUptoRow.holds Try.pinned (OpenSpec.upto treePlaysSpec)

end Rows
end Go.Proofs.Ytebhbfjnobcckaa
