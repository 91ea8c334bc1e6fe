/-
  No cell of these rows narrows 'for every input' (looked for: loops, veiled, ifaces, maps, wideKeys, modest, calm, conditions, laid).
  DERIVED. THE GIVEN ROWS OF THIS SEAT. 4 by the template 'for every input the law returns true; each argument reads behind the call as it read before'; 0 by the template 'total and deterministic' (their statements: YtmkjcjdomechfaaTotals.lean).
  GIVEN WITH THE SEED: the statements are not yours to turn. If you find one false, say at which input.
  Laid BY PROGRAM, IN A SANDBOX (cutbox-rows.mjs): the forced cells as the released guide's own fill.sh prints them over the translation 2bc7a928d4c8e70f… (all of the seat's roots in one cut). By AI agents, Wed Nov 11 2026. No macro, syntax, notation, axiom, sorry.
-/
import Derived.Test.YtmkjcjdomechfaaChecked
import GoSem.Claim
import GoSem.ClaimJoined
import GoSem.ClaimMapViews
import Derived.JoinedTies
import Derived.KernelRfl
namespace Go.Proofs.Ytmkjcjdomechfaa
/- THE CELL 'sum', in the pinned program and in every row, IS THE sha256 OF THE DUMP (.gsa) THAT YtmkjcjdomechfaaProg.lean LOADS. Nothing in Lean hashes anything: it is a label: what it is worth is what the hold of that sum in a sandbox is worth. -/
noncomputable def Try.pinned : Pinned := { name := "ytmkjcjdomechfaa", sum := "2bc7a928d4c8e70f3734edaf34df4b82387d79629401e3b7c28d1bcf4e490a8d", checked := Try.checked }
namespace Rows
def none {H : Type} : Left H := { results := [], args := [] }

/-- 'mailcoachlaw19.LaterPlays': WHATEVER THE INPUT: true; the input reads as it did. -/
def laterPlaysSpec : ChangeSpec := { name := "laterPlays", fn := fun _ => fun
  | [d] => { results := [.lit (.bool true)], args := [d] }
  | _ => none }
def laterPlaysRow : OpenClaim := { program := "ytmkjcjdomechfaa", sum := "2bc7a928d4c8e70f3734edaf34df4b82387d79629401e3b7c28d1bcf4e490a8d", func := "mailcoach/mailcoachlaw19.LaterPlays", spec := "laterPlays", inPlace := ["slices.overlaps[mailcoach/api.Wait]"], unfollowed := true, recurses := true, plainKeys := false, apart := false }
def LaterPlaysSaid : Prop := laterPlaysRow.holds Try.pinned (OpenSpec.ofChange laterPlaysSpec)

/-- ITS FALSE NEIGHBOUR: 'it returns false'. Refute it at one input. -/
def laterPlaysWrong : ChangeSpec := { name := "laterPlays", fn := fun _ => fun
  | [d] => { results := [.lit (.bool false)], args := [d] }
  | _ => none }
def LaterPlaysWrongFalsely : Prop := laterPlaysRow.holds Try.pinned (OpenSpec.ofChange laterPlaysWrong)

/-- 'mailcoachlaw19.LaterOrder': WHATEVER THE INPUT: true; the input reads as it did. -/
def laterOrderSpec : ChangeSpec := { name := "laterOrder", fn := fun _ => fun
  | [d1, d2] => { results := [.lit (.bool true)], args := [d1, d2] }
  | _ => none }
def laterOrderRow : OpenClaim := { program := "ytmkjcjdomechfaa", sum := "2bc7a928d4c8e70f3734edaf34df4b82387d79629401e3b7c28d1bcf4e490a8d", func := "mailcoach/mailcoachlaw19.LaterOrder", spec := "laterOrder", inPlace := ["slices.overlaps[mailcoach/api.Wait]"], unfollowed := true, recurses := true, plainKeys := false, apart := false }
def LaterOrderSaid : Prop := laterOrderRow.holds Try.pinned (OpenSpec.ofChange laterOrderSpec)

/-- ITS FALSE NEIGHBOUR: 'it returns false'. Refute it at one input. -/
def laterOrderWrong : ChangeSpec := { name := "laterOrder", fn := fun _ => fun
  | [d1, d2] => { results := [.lit (.bool false)], args := [d1, d2] }
  | _ => none }
def LaterOrderWrongFalsely : Prop := laterOrderRow.holds Try.pinned (OpenSpec.ofChange laterOrderWrong)

/-- 'mailcoachlaw19.LaterMany': WHATEVER THE INPUT: true; the input reads as it did. -/
def laterManySpec : ChangeSpec := { name := "laterMany", fn := fun _ => fun
  | [d1, d2] => { results := [.lit (.bool true)], args := [d1, d2] }
  | _ => none }
def laterManyRow : OpenClaim := { program := "ytmkjcjdomechfaa", sum := "2bc7a928d4c8e70f3734edaf34df4b82387d79629401e3b7c28d1bcf4e490a8d", func := "mailcoach/mailcoachlaw19.LaterMany", spec := "laterMany", inPlace := ["slices.overlaps[mailcoach/api.Wait]"], unfollowed := true, recurses := true, plainKeys := false, apart := false }
def LaterManySaid : Prop := laterManyRow.holds Try.pinned (OpenSpec.ofChange laterManySpec)

/-- ITS FALSE NEIGHBOUR: 'it returns false'. Refute it at one input. -/
def laterManyWrong : ChangeSpec := { name := "laterMany", fn := fun _ => fun
  | [d1, d2] => { results := [.lit (.bool false)], args := [d1, d2] }
  | _ => none }
def LaterManyWrongFalsely : Prop := laterManyRow.holds Try.pinned (OpenSpec.ofChange laterManyWrong)

/-- 'mailcoachlaw19.LaterNil': WHATEVER THE INPUT: true; the input reads as it did. -/
def laterNilSpec : ChangeSpec := { name := "laterNil", fn := fun _ => fun
  | [d] => { results := [.lit (.bool true)], args := [d] }
  | _ => none }
def laterNilRow : OpenClaim := { program := "ytmkjcjdomechfaa", sum := "2bc7a928d4c8e70f3734edaf34df4b82387d79629401e3b7c28d1bcf4e490a8d", func := "mailcoach/mailcoachlaw19.LaterNil", spec := "laterNil", inPlace := ["slices.overlaps[mailcoach/api.Wait]"], unfollowed := true, recurses := true, plainKeys := false, apart := false }
def LaterNilSaid : Prop := laterNilRow.holds Try.pinned (OpenSpec.ofChange laterNilSpec)

/-- ITS FALSE NEIGHBOUR: 'it returns false'. Refute it at one input. -/
def laterNilWrong : ChangeSpec := { name := "laterNil", fn := fun _ => fun
  | [d] => { results := [.lit (.bool false)], args := [d] }
  | _ => none }
def LaterNilWrongFalsely : Prop := laterNilRow.holds Try.pinned (OpenSpec.ofChange laterNilWrong)

/- THE SECOND FORM. 'bulk': how many values and letters a reading holds, each counted each time it is reached (what is shared counts as often as it is met; a slice's spare places count too). A statement '..UptoSaid' is the law's where the arguments, and the package variables that the reading takes, are together of bulk at most 1048576: NARROWER than '..Said'. Prove '..Said' where nothing that the law and all that it calls make is longer than what came in: it says more and counts as full. Else prove '..UptoSaid'. A law counts once. -/
mutual
def uptoBulk {H : Type} : DataW H → Nat
  | .lit (.string bytes) => bytes.length + 1
  | .lit _ => 1
  | .nil => 1
  | .ptr d => uptoBulk d + 1
  | .slice elems spare => uptoBulkAll elems + uptoBulkAll spare + 1
  | .agg parts => uptoBulkAll parts + 1
  | .iface _ d => uptoBulk d + 1
  | .map entries => uptoBulkEntries entries + 1
  | .held _ => 1
def uptoBulkAll {H : Type} : List (DataW H) → Nat
  | [] => 0
  | d :: r => uptoBulk d + uptoBulkAll r
def uptoBulkEntries {H : Type} : List (Lit × DataW H) → Nat
  | [] => 0
  | x :: r => uptoBulkEntry x + uptoBulkEntries r
def uptoBulkEntry {H : Type} : Lit × DataW H → Nat
  | (.string bytes, d) => bytes.length + uptoBulk d + 1
  | (_, d) => uptoBulk d + 1
 end
def uptoSmall : (H : Type) → List (DataW H) → Bool := fun _ ds => decide (uptoBulkAll ds ≤ 1048576)
def OpenSpec.upto (s : _root_.Go.ChangeSpec) : _root_.Go.OpenSpec := { _root_.Go.OpenSpec.ofChange s with cond := some uptoSmall }

/-- 'mailcoachlaw19.LaterPlays', WHERE WHAT IT READS IS OF BULK AT MOST 1048576: true; the input reads as it did. -/
def laterPlaysUptoRow : OpenClaim := { program := "ytmkjcjdomechfaa", sum := "2bc7a928d4c8e70f3734edaf34df4b82387d79629401e3b7c28d1bcf4e490a8d", func := "mailcoach/mailcoachlaw19.LaterPlays", spec := "laterPlays", inPlace := ["slices.overlaps[mailcoach/api.Wait]"], unfollowed := true, recurses := true, plainKeys := false, apart := false, narrowed := true }
def LaterPlaysUptoSaid : Prop := laterPlaysUptoRow.holds Try.pinned (OpenSpec.upto laterPlaysSpec)

/-- 'mailcoachlaw19.LaterOrder', WHERE WHAT IT READS IS OF BULK AT MOST 1048576: true; the input reads as it did. -/
def laterOrderUptoRow : OpenClaim := { program := "ytmkjcjdomechfaa", sum := "2bc7a928d4c8e70f3734edaf34df4b82387d79629401e3b7c28d1bcf4e490a8d", func := "mailcoach/mailcoachlaw19.LaterOrder", spec := "laterOrder", inPlace := ["slices.overlaps[mailcoach/api.Wait]"], unfollowed := true, recurses := true, plainKeys := false, apart := false, narrowed := true }
def LaterOrderUptoSaid : Prop := laterOrderUptoRow.holds Try.pinned (OpenSpec.upto laterOrderSpec)

/-- 'mailcoachlaw19.LaterMany', WHERE WHAT IT READS IS OF BULK AT MOST 1048576: true; the input reads as it did. -/
def laterManyUptoRow : OpenClaim := { program := "ytmkjcjdomechfaa", sum := "2bc7a928d4c8e70f3734edaf34df4b82387d79629401e3b7c28d1bcf4e490a8d", func := "mailcoach/mailcoachlaw19.LaterMany", spec := "laterMany", inPlace := ["slices.overlaps[mailcoach/api.Wait]"], unfollowed := true, recurses := true, plainKeys := false, apart := false, narrowed := true }
def LaterManyUptoSaid : Prop := laterManyUptoRow.holds Try.pinned (OpenSpec.upto laterManySpec)

/-- 'mailcoachlaw19.LaterNil', WHERE WHAT IT READS IS OF BULK AT MOST 1048576: true; the input reads as it did. -/
def laterNilUptoRow : OpenClaim := { program := "ytmkjcjdomechfaa", sum := "2bc7a928d4c8e70f3734edaf34df4b82387d79629401e3b7c28d1bcf4e490a8d", func := "mailcoach/mailcoachlaw19.LaterNil", spec := "laterNil", inPlace := ["slices.overlaps[mailcoach/api.Wait]"], unfollowed := true, recurses := true, plainKeys := false, apart := false, narrowed := true }
def LaterNilUptoSaid : Prop := laterNilUptoRow.holds Try.pinned (OpenSpec.upto laterNilSpec)

end Rows
end Go.Proofs.Ytmkjcjdomechfaa
