/-
  JOINED BY fam.py out of: PackI, PackJ, PackD.
-/
import Derived.Test.YtackmgmaippajaaFPa
import Derived.Test.YtackmgmaippajaaFP
import Derived.StillTactics
-- part PackI
namespace Go.Proofs.Ytackmgmaippajaa
open Go Go.RowKit

end Go.Proofs.Ytackmgmaippajaa
-- part PackJ
namespace Go.Proofs.Ytackmgmaippajaa
open Go Go.RowKit

/-- What the document's Unframe gives. -/
def UnfIs (w : World) (bs : List UInt8) (e : Ending) (w' : World) : Prop := ∃ bo bc ro rc, e = .returned (.tuple #[.slice bo (unf bs).1.length bc, .slice ro (unf bs).2.1.length rc, .int .i64 ((unf bs).2.2 : Nat)]) ∧ Below w.heap.size w w' ∧ Bts w' bo (unf bs).1 ∧ Bts w' ro (unf bs).2.1
theorem unf_bad {w w' : World} {bs : List UInt8} {code : Nat} (hu : unf bs = ([], [], code)) (hw : Below w.heap.size w w') : UnfIs w bs (.returned (.tuple #[.slice none 0 0, .slice none 0 0, .int .i64 (code : Int)])) w' := by
  refine ⟨none, 0, none, 0, ?_, hw, ?_, ?_⟩
  · rw [hu]; rfl
  · rw [hu]; exact Bts.nil _ _
  · rw [hu]; exact Bts.nil _ _
end Go.Proofs.Ytackmgmaippajaa
-- part PackD
namespace Go.Proofs.Ytackmgmaippajaa
open Go Go.RowKit

/-- What the document's Unframe gives. -/
def UnfD (D : Option Nat) (w : World) (bs : List UInt8) (e : Ending) (w' : World) : Prop := ∃ bo bc ro rc, e = .returned (.tuple #[.slice bo (unf bs).1.length bc, .slice ro (unf bs).2.1.length rc, .int .i64 ((unf bs).2.2 : Nat)]) ∧ Below w.heap.size w w' ∧ Bts w' bo (unf bs).1 ∧ Bts w' ro (unf bs).2.1 ∧ ∀ a, bo = some a → D = some a.block
theorem unfD_bad {D : Option Nat} {w w' : World} {bs : List UInt8} {code : Nat} (hu : unf bs = ([], [], code)) (hw : Below w.heap.size w w') : UnfD D w bs (.returned (.tuple #[.slice none 0 0, .slice none 0 0, .int .i64 (code : Int)])) w' := by
  refine ⟨none, 0, none, 0, ?_, hw, ?_, ?_, by simp⟩
  · rw [hu]; rfl
  · rw [hu]; exact Bts.nil _ _
  · rw [hu]; exact Bts.nil _ _
end Go.Proofs.Ytackmgmaippajaa
