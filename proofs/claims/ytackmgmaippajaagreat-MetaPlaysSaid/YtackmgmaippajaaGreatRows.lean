/-
  No cell of these rows narrows 'for every input' (looked for: loops, veiled, ifaces, maps, wideKeys, modest, calm, conditions, laid).
  DERIVED. THE GIVEN ROWS OF THIS SEAT. 4 by the template 'for every input the law returns true; each argument reads behind the call as it read before'; 0 by the template 'total and deterministic' (their statements: YtackmgmaippajaaGreatTotals.lean).
  GIVEN WITH THE SEED: the statements are not yours to turn. If you find one false, say at which input.
  Laid BY PROGRAM, IN A SANDBOX (cutbox-rows.mjs): the forced cells as the released guide's own fill.sh prints them over the translation 88a392176de3597a… (all of the seat's roots in one cut). By AI agents, Wed Nov 11 2026. No macro, syntax, notation, axiom, sorry.
-/
import Derived.Test.YtackmgmaippajaaGreatChecked
import GoSem.Claim
import GoSem.ClaimJoined
import GoSem.ClaimMapViews
import Derived.JoinedTies
import Derived.KernelRfl
namespace Go.Proofs.YtackmgmaippajaaGreat
/- THE CELL 'sum', in the pinned program and in every row, IS THE sha256 OF THE DUMP (.gsa) THAT YtackmgmaippajaaGreatProg.lean LOADS. Nothing in Lean hashes anything: it is a label: what it is worth is what the hold of that sum in a sandbox is worth. -/
noncomputable def Tryz.pinned : Pinned := { name := "ytackmgmaippajaagreat", sum := "88a392176de3597a1a1fe8903b8ecf934e62130a312f9485458a61124eed629c", checked := Tryz.checked }
namespace Rows
def none {H : Type} : Left H := { results := [], args := [] }

/-- 'mailcoachlaw08.MetaOpens': WHATEVER THE INPUT: true; the input reads as it did. -/
def metaOpensSpec : ChangeSpec := { name := "metaOpens", fn := fun _ => fun
  | [d1, d2, d3, d4] => { results := [.lit (.bool true)], args := [d1, d2, d3, d4] }
  | _ => none }
def metaOpensRow : OpenClaim := { program := "ytackmgmaippajaagreat", sum := "88a392176de3597a1a1fe8903b8ecf934e62130a312f9485458a61124eed629c", func := "mailcoach/mailcoachlaw08.MetaOpens", spec := "metaOpens", inPlace := ["internal/bytealg.abigen_runtime_cmpstring", "slices.overlaps[mailcoach/api.Node]", "internal/abi.NoEscape", "internal/bytealg.MakeNoZero"], unfollowed := true, recurses := true, apart := false }
def MetaOpensSaid : Prop := metaOpensRow.holds Tryz.pinned (OpenSpec.ofChange metaOpensSpec)

/-- ITS FALSE NEIGHBOUR: 'it returns false'. Refute it at one input. -/
def metaOpensWrong : ChangeSpec := { name := "metaOpens", fn := fun _ => fun
  | [d1, d2, d3, d4] => { results := [.lit (.bool false)], args := [d1, d2, d3, d4] }
  | _ => none }
def MetaOpensWrongFalsely : Prop := metaOpensRow.holds Tryz.pinned (OpenSpec.ofChange metaOpensWrong)

/-- 'mailcoachlaw08.MetaApart': WHATEVER THE INPUT: true; the input reads as it did. -/
def metaApartSpec : ChangeSpec := { name := "metaApart", fn := fun _ => fun
  | [d1, d2] => { results := [.lit (.bool true)], args := [d1, d2] }
  | _ => none }
def metaApartRow : OpenClaim := { program := "ytackmgmaippajaagreat", sum := "88a392176de3597a1a1fe8903b8ecf934e62130a312f9485458a61124eed629c", func := "mailcoach/mailcoachlaw08.MetaApart", spec := "metaApart", inPlace := ["internal/bytealg.abigen_runtime_cmpstring", "slices.overlaps[mailcoach/api.Node]", "internal/abi.NoEscape", "internal/bytealg.MakeNoZero"], unfollowed := true, recurses := true, apart := false }
def MetaApartSaid : Prop := metaApartRow.holds Tryz.pinned (OpenSpec.ofChange metaApartSpec)

/-- ITS FALSE NEIGHBOUR: 'it returns false'. Refute it at one input. -/
def metaApartWrong : ChangeSpec := { name := "metaApart", fn := fun _ => fun
  | [d1, d2] => { results := [.lit (.bool false)], args := [d1, d2] }
  | _ => none }
def MetaApartWrongFalsely : Prop := metaApartRow.holds Tryz.pinned (OpenSpec.ofChange metaApartWrong)

/-- 'mailcoachlaw08.MetaSnaps': WHATEVER THE INPUT: true; the input reads as it did. -/
def metaSnapsSpec : ChangeSpec := { name := "metaSnaps", fn := fun _ => fun
  | [d1, d2] => { results := [.lit (.bool true)], args := [d1, d2] }
  | _ => none }
def metaSnapsRow : OpenClaim := { program := "ytackmgmaippajaagreat", sum := "88a392176de3597a1a1fe8903b8ecf934e62130a312f9485458a61124eed629c", func := "mailcoach/mailcoachlaw08.MetaSnaps", spec := "metaSnaps", inPlace := ["internal/bytealg.abigen_runtime_cmpstring", "slices.overlaps[mailcoach/api.Node]", "internal/abi.NoEscape", "internal/bytealg.MakeNoZero"], unfollowed := true, recurses := true, apart := false }
def MetaSnapsSaid : Prop := metaSnapsRow.holds Tryz.pinned (OpenSpec.ofChange metaSnapsSpec)

/-- ITS FALSE NEIGHBOUR: 'it returns false'. Refute it at one input. -/
def metaSnapsWrong : ChangeSpec := { name := "metaSnaps", fn := fun _ => fun
  | [d1, d2] => { results := [.lit (.bool false)], args := [d1, d2] }
  | _ => none }
def MetaSnapsWrongFalsely : Prop := metaSnapsRow.holds Tryz.pinned (OpenSpec.ofChange metaSnapsWrong)

/-- 'mailcoachlaw08.MetaPlays': WHATEVER THE INPUT: true; the input reads as it did. -/
def metaPlaysSpec : ChangeSpec := { name := "metaPlays", fn := fun _ => fun
  | [d1, d2, d3] => { results := [.lit (.bool true)], args := [d1, d2, d3] }
  | _ => none }
def metaPlaysRow : OpenClaim := { program := "ytackmgmaippajaagreat", sum := "88a392176de3597a1a1fe8903b8ecf934e62130a312f9485458a61124eed629c", func := "mailcoach/mailcoachlaw08.MetaPlays", spec := "metaPlays", inPlace := ["internal/bytealg.abigen_runtime_cmpstring", "slices.overlaps[mailcoach/api.Node]", "internal/abi.NoEscape", "internal/bytealg.MakeNoZero"], unfollowed := true, recurses := true, apart := false }
def MetaPlaysSaid : Prop := metaPlaysRow.holds Tryz.pinned (OpenSpec.ofChange metaPlaysSpec)

/-- ITS FALSE NEIGHBOUR: 'it returns false'. Refute it at one input. -/
def metaPlaysWrong : ChangeSpec := { name := "metaPlays", fn := fun _ => fun
  | [d1, d2, d3] => { results := [.lit (.bool false)], args := [d1, d2, d3] }
  | _ => none }
def MetaPlaysWrongFalsely : Prop := metaPlaysRow.holds Tryz.pinned (OpenSpec.ofChange metaPlaysWrong)

/- THE SECOND FORM. 'bulk': how many values and letters a reading holds, each counted each time it is reached (what is shared counts as often as it is met; a slice's spare places count too). A statement '..UptoSaid' is the law's where the arguments, and the package variables that the reading takes, are together of bulk at most 1048576: NARROWER than '..Said'. Prove '..Said' where nothing that the law and all that it calls make is longer than what came in: it says more and counts as full. Else prove '..UptoSaid'. A law counts once. -/
mutual
def uptoBulk {H : Type} : DataW H → Nat
  | .lit (.string bytes) => bytes.length + 1
  | .lit _ => 1
  | .nil => 1
  | .ptr d => uptoBulk d + 1
  | .slice elems spare => uptoBulkAll elems + uptoBulkAll spare + 1
  | .agg parts => uptoBulkAll parts + 1
  | .iface _ d => uptoBulk d + 1
  | .map entries => uptoBulkEntries entries + 1
  | .held _ => 1
def uptoBulkAll {H : Type} : List (DataW H) → Nat
  | [] => 0
  | d :: r => uptoBulk d + uptoBulkAll r
def uptoBulkEntries {H : Type} : List (Lit × DataW H) → Nat
  | [] => 0
  | x :: r => uptoBulkEntry x + uptoBulkEntries r
def uptoBulkEntry {H : Type} : Lit × DataW H → Nat
  | (.string bytes, d) => bytes.length + uptoBulk d + 1
  | (_, d) => uptoBulk d + 1
 end
def uptoSmall : (H : Type) → List (DataW H) → Bool := fun _ ds => decide (uptoBulkAll ds ≤ 1048576)
def OpenSpec.upto (s : _root_.Go.ChangeSpec) : _root_.Go.OpenSpec := { _root_.Go.OpenSpec.ofChange s with cond := some uptoSmall }

/-- 'mailcoachlaw08.MetaOpens', WHERE WHAT IT READS IS OF BULK AT MOST 1048576: true; the input reads as it did. -/
def metaOpensUptoRow : OpenClaim := { program := "ytackmgmaippajaagreat", sum := "88a392176de3597a1a1fe8903b8ecf934e62130a312f9485458a61124eed629c", func := "mailcoach/mailcoachlaw08.MetaOpens", spec := "metaOpens", inPlace := ["internal/bytealg.abigen_runtime_cmpstring", "slices.overlaps[mailcoach/api.Node]", "internal/abi.NoEscape", "internal/bytealg.MakeNoZero"], unfollowed := true, recurses := true, apart := false, narrowed := true }
def MetaOpensUptoSaid : Prop := metaOpensUptoRow.holds Tryz.pinned (OpenSpec.upto metaOpensSpec)

/-- 'mailcoachlaw08.MetaApart', WHERE WHAT IT READS IS OF BULK AT MOST 1048576: true; the input reads as it did. -/
def metaApartUptoRow : OpenClaim := { program := "ytackmgmaippajaagreat", sum := "88a392176de3597a1a1fe8903b8ecf934e62130a312f9485458a61124eed629c", func := "mailcoach/mailcoachlaw08.MetaApart", spec := "metaApart", inPlace := ["internal/bytealg.abigen_runtime_cmpstring", "slices.overlaps[mailcoach/api.Node]", "internal/abi.NoEscape", "internal/bytealg.MakeNoZero"], unfollowed := true, recurses := true, apart := false, narrowed := true }
def MetaApartUptoSaid : Prop := metaApartUptoRow.holds Tryz.pinned (OpenSpec.upto metaApartSpec)

/-- 'mailcoachlaw08.MetaSnaps', WHERE WHAT IT READS IS OF BULK AT MOST 1048576: true; the input reads as it did. -/
def metaSnapsUptoRow : OpenClaim := { program := "ytackmgmaippajaagreat", sum := "88a392176de3597a1a1fe8903b8ecf934e62130a312f9485458a61124eed629c", func := "mailcoach/mailcoachlaw08.MetaSnaps", spec := "metaSnaps", inPlace := ["internal/bytealg.abigen_runtime_cmpstring", "slices.overlaps[mailcoach/api.Node]", "internal/abi.NoEscape", "internal/bytealg.MakeNoZero"], unfollowed := true, recurses := true, apart := false, narrowed := true }
def MetaSnapsUptoSaid : Prop := metaSnapsUptoRow.holds Tryz.pinned (OpenSpec.upto metaSnapsSpec)

/-- 'mailcoachlaw08.MetaPlays', WHERE WHAT IT READS IS OF BULK AT MOST 1048576: true; the input reads as it did. -/
def metaPlaysUptoRow : OpenClaim := { program := "ytackmgmaippajaagreat", sum := "88a392176de3597a1a1fe8903b8ecf934e62130a312f9485458a61124eed629c", func := "mailcoach/mailcoachlaw08.MetaPlays", spec := "metaPlays", inPlace := ["internal/bytealg.abigen_runtime_cmpstring", "slices.overlaps[mailcoach/api.Node]", "internal/abi.NoEscape", "internal/bytealg.MakeNoZero"], unfollowed := true, recurses := true, apart := false, narrowed := true }
def MetaPlaysUptoSaid : Prop := metaPlaysUptoRow.holds Tryz.pinned (OpenSpec.upto metaPlaysSpec)

end Rows
end Go.Proofs.YtackmgmaippajaaGreat
