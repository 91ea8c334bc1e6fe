/-
  LAYER 2: a writer of the function's own; the law's Awake.
-/
import Derived.Test.YtggidllaodloiaaPackR
import Derived.Test.YtggidllaodloiaaStr
namespace Go.Proofs.Ytggidllaodloiaa
open Go Go.RowKit

/-- A writer that was made behind w0. -/
def WrMine (w0 w : World) (p : Nat) (bs : List UInt8) : Prop := ∃ F, WrAt w p bs F ∧ (∀ k ∈ F, w0.heap.size ≤ k) ∧ Below w0.heap.size w0 w
theorem WrMine.below {w0 w : World} {p : Nat} {bs : List UInt8} (h : WrMine w0 w p bs) : Below w0.heap.size w0 w := h.choose_spec.2.2
theorem WrMine.keep {w0 w w' : World} {p : Nat} {bs : List UInt8} (h : WrMine w0 w p bs) (hb : Below w.heap.size w w') : WrMine w0 w' p bs := by
  obtain ⟨F, h1, h2, h3⟩ := h
  exact ⟨F, h1.keep (Chg.of_below hb (fun _ => False)) (fun _ _ h => h), h2, h3.trans (hb.mono h3.size)⟩
theorem WrMine.chg {w0 w w' : World} {p : Nat} {bs : List UInt8} (h : WrMine w0 w p bs) (hb : Chg (fun _ => False) w w') : WrMine w0 w' p bs := by
  obtain ⟨F, h1, h2, h3⟩ := h
  exact ⟨F, h1.keep hb (fun _ _ h => h), h2, h3.trans (hb.below h3.size (fun _ h => h.elim))⟩
theorem WrMine.new {w0 w : World} (h : Below w0.heap.size w0 w) : WrMine w0 (w.alloc (.cells #[.slice none 0 0] 70)) w.heap.size [] := by
  refine ⟨[w.heap.size], ⟨none, 0, heap_top _ _, Own.nil' _ _, by simp, rfl⟩, ?_, h.alloc h.size _⟩
  intro k hk
  rw [List.mem_singleton] at hk
  rw [hk]; exact h.size
theorem WrMine.now {w0 w w' : World} {p : Nat} {bs' : List UInt8} {F : List Nat} (h2 : ∀ k ∈ F, w0.heap.size ≤ k) (h3 : Below w0.heap.size w0 w) (hn : WrNow w p F bs' w') : WrMine w0 w' p bs' := by
  obtain ⟨F', h4, h5, h6⟩ := hn
  refine ⟨F', h4, ?_, h3.trans (h5.below h3.size h2)⟩
  intro k hk
  rcases h6 k hk with h | h
  · exact h2 k h
  · exact Nat.le_trans h3.size h
/-! ### the law's Awake -/
theorem one_bts (w : World) (fz : Nat × Nat) : Bts (w.alloc (.cells #[.int .u8 1] 5 fz)) (some ⟨w.heap.size, 0, none⟩) [1] := Bts.alloc w _ _ _ _ rfl
end Go.Proofs.Ytggidllaodloiaa
