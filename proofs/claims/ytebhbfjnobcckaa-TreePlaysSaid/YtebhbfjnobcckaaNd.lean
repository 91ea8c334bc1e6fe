/-
  LAYER 6: a node as cells.
-/
import Derived.Test.YtebhbfjnobcckaaProg
import Derived.Test.YtebhbfjnobcckaaFlat
import Derived.Test.YtebhbfjnobcckaaBase
import Derived.Test.YtebhbfjnobcckaaStr
import Derived.Deep.LoopGhost
import Derived.Deep.QuietTactic
import Derived.BigQuiet
import Derived.WalkLawsBesides
import Derived.WalkSpells
import Derived.Lib.SliceRun
import Derived.Deep.DeepCutAuto
import Derived.Deep.CutBlock
import Derived.Deep.RegionLaw
import Derived.Deep.RegionWith
import Derived.Handy
namespace Go.Proofs.Ytebhbfjnobcckaa
open Go Go.RowKit

/-- A node: its key, its value's bytes, version, session; where its bytes lie. -/
structure Nd where
  key : ByteArray
  body : List UInt8
  ver : Nat
  own : Nat
  vo : Option Addr
  vc : Nat
def Nd.cells (e : Nd) : List Value := [.string e.key, .slice e.vo e.body.length e.vc, .int .u64 (e.ver : Int), .int .u64 (e.own : Int)]
def Nd.val (e : Nd) : Value := .agg #[.string e.key, .slice e.vo e.body.length e.vc, .int .u64 (e.ver : Int), .int .u64 (e.own : Int)]
theorem el_e : Elem Nd.cells 4 := ⟨fun _ => rfl, by decide, fun e u hu => by simp [Nd.cells] at hu; rcases hu with rfl | rfl | rfl | rfl <;> rfl⟩
theorem alloc_cell {w : World} {a : Addr} {v : Value} {o : Obj} (h : w.cell? a = some v) : (w.alloc o).cell? a = some v := by
  rw [World.cell?_alloc_lt _ _ _ (World.block_lt_of_cell? w a h)]; exact h
theorem cells4 {w : World} {p : Nat} {a b c d : Value} {t : TypeId} (h : w.heap[p]? = some (.cells #[a, b, c, d] t (0, 0))) :
    w.cell? ⟨p, 0, none⟩ = some a ∧ w.cell? ⟨p, 1, none⟩ = some b ∧ w.cell? ⟨p, 2, none⟩ = some c ∧ w.cell? ⟨p, 3, none⟩ = some d ∧ ∀ i, w.frozen? ⟨p, i, none⟩ = false := by
  have h0 := heap_cell h 0
  have h1 := heap_cell h 1
  have h2 := heap_cell h 2
  have h3 := heap_cell h 3
  simp at h0 h1 h2 h3
  exact ⟨h0, h1, h2, h3, fun i => heap_frozen h i⟩
end Go.Proofs.Ytebhbfjnobcckaa
