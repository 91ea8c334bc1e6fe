/-
  WORDS OF ALL SEATS WITH BYTES: new blocks, cells of a block, slices.Clone of bytes.
-/
import Derived.Test.YtibigfglhpdjmaaDoorProg
import Derived.Test.YtibigfglhpdjmaaDoorMem
import Derived.Test.YtibigfglhpdjmaaDoorOpen
import Derived.Deep.LoopGhost
import Derived.Deep.QuietTactic
import Derived.BigQuiet
import Derived.WalkLawsBesides
import Derived.WalkSpells
import Derived.Deep.DeepCutAuto
import Derived.Lib.SliceRun
namespace Go.Proofs.YtibigfglhpdjmaaDoor
open Go Go.RowKit

theorem heap_top (w : World) (o : Obj) : (w.alloc o).heap[w.heap.size]? = some o := by show (w.heap.push o)[w.heap.size]? = _; simp
theorem size_alloc (w : World) (o : Obj) : (w.alloc o).heap.size = w.heap.size + 1 := by show (w.heap.push o).size = _; simp
theorem cells3 {w : World} {p : Nat} {a b c : Value} {t : TypeId} (h : w.heap[p]? = some (.cells #[a, b, c] t (0, 0))) :
    w.cell? ⟨p, 0, none⟩ = some a ∧ w.cell? ⟨p, 1, none⟩ = some b ∧ w.cell? ⟨p, 2, none⟩ = some c ∧ ∀ i, w.frozen? ⟨p, i, none⟩ = false := by
  have h0 := heap_cell h 0
  have h1 := heap_cell h 1
  have h2 := heap_cell h 2
  simp at h0 h1 h2
  exact ⟨h0, h1, h2, fun i => heap_frozen h i⟩
theorem cells1 {w : World} {p : Nat} {a : Value} {t : TypeId} (h : w.heap[p]? = some (.cells #[a] t (0, 0))) : w.cell? ⟨p, 0, none⟩ = some a ∧ ∀ i, w.frozen? ⟨p, i, none⟩ = false := by
  have h0 := heap_cell h 0
  simp at h0
  exact ⟨h0, fun i => heap_frozen h i⟩
theorem cells2 {w : World} {p : Nat} {a b : Value} {t : TypeId} (h : w.heap[p]? = some (.cells #[a, b] t (0, 0))) : w.cell? ⟨p, 0, none⟩ = some a ∧ w.cell? ⟨p, 1, none⟩ = some b ∧ ∀ i, w.frozen? ⟨p, i, none⟩ = false := by
  have h0 := heap_cell h 0
  have h1 := heap_cell h 1
  simp at h0 h1
  exact ⟨h0, h1, fun i => heap_frozen h i⟩
/-- What comes of a call on a thing with the blocks F: it has F' now. -/
def Grew (w : World) (F F' : List Nat) : Prop := ∀ k ∈ F', k ∈ F ∨ w.heap.size ≤ k
theorem Grew.refl (w : World) (F : List Nat) : Grew w F F := fun _ h => .inl h
theorem el_u8 : ElemOf Tryd.prog 30 5 (.int .u8 0) 1 1 := .mk' Tryd.underlying30 (by kernel_rfl) rfl (by decide)
end Go.Proofs.YtibigfglhpdjmaaDoor
