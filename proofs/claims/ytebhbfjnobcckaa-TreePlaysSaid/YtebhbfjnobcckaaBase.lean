/-
  WORDS OF ALL SEATS WITH BYTES: new blocks, cells of a block, slices.Clone of bytes.
-/
import Derived.Test.YtebhbfjnobcckaaProg
import Derived.Test.YtebhbfjnobcckaaMem
import Derived.Test.YtebhbfjnobcckaaOpen
import Derived.Deep.LoopGhost
import Derived.Deep.QuietTactic
import Derived.BigQuiet
import Derived.WalkLawsBesides
import Derived.WalkSpells
import Derived.Deep.DeepCutAuto
import Derived.Lib.SliceRun
namespace Go.Proofs.Ytebhbfjnobcckaa
open Go Go.RowKit

theorem heap_top (w : World) (o : Obj) : (w.alloc o).heap[w.heap.size]? = some o := by show (w.heap.push o)[w.heap.size]? = _; simp
theorem size_alloc (w : World) (o : Obj) : (w.alloc o).heap.size = w.heap.size + 1 := by show (w.heap.push o).size = _; simp
theorem cells3 {w : World} {p : Nat} {a b c : Value} {t : TypeId} (h : w.heap[p]? = some (.cells #[a, b, c] t (0, 0))) :
    w.cell? ⟨p, 0, none⟩ = some a ∧ w.cell? ⟨p, 1, none⟩ = some b ∧ w.cell? ⟨p, 2, none⟩ = some c ∧ ∀ i, w.frozen? ⟨p, i, none⟩ = false := by
  have h0 := heap_cell h 0
  have h1 := heap_cell h 1
  have h2 := heap_cell h 2
  simp at h0 h1 h2
  exact ⟨h0, h1, h2, fun i => heap_frozen h i⟩
theorem cells1 {w : World} {p : Nat} {a : Value} {t : TypeId} (h : w.heap[p]? = some (.cells #[a] t (0, 0))) : w.cell? ⟨p, 0, none⟩ = some a ∧ ∀ i, w.frozen? ⟨p, i, none⟩ = false := by
  have h0 := heap_cell h 0
  simp at h0
  exact ⟨h0, fun i => heap_frozen h i⟩
theorem cells2 {w : World} {p : Nat} {a b : Value} {t : TypeId} (h : w.heap[p]? = some (.cells #[a, b] t (0, 0))) : w.cell? ⟨p, 0, none⟩ = some a ∧ w.cell? ⟨p, 1, none⟩ = some b ∧ ∀ i, w.frozen? ⟨p, i, none⟩ = false := by
  have h0 := heap_cell h 0
  have h1 := heap_cell h 1
  simp at h0 h1
  exact ⟨h0, h1, fun i => heap_frozen h i⟩
/-- What comes of a call on a thing with the blocks F: it has F' now. -/
def Grew (w : World) (F F' : List Nat) : Prop := ∀ k ∈ F', k ∈ F ∨ w.heap.size ≤ k
theorem Grew.refl (w : World) (F : List Nat) : Grew w F F := fun _ h => .inl h
theorem el_u8 : ElemOf Try.prog 27 5 (.int .u8 0) 1 1 := .mk' Try.underlying27 (by kernel_rfl) rfl (by decide)
/-- slices.Clone of bytes. -/
theorem clone_any (ao : Option Addr) (n c : Nat) (bs : List UInt8) (w : World) (hl : bs.length = n) (hn : n ≤ 140737488351232) (hc : Bts w ao bs) :
    Calls Try.prog 29 #[.slice ao n c] w fun e w' => ∃ bo cap, e = .returned (.slice bo n cap) ∧ Below w.heap.size w w' ∧ Own w' 1 bo n cap (bs.map cb) ∧ ∀ a, bo = some a → w.heap.size ≤ a.block := by
  cases ao with
  | none =>
    have hb : bs = [] := by
      cases bs with
      | nil => rfl
      | cons b bs => obtain ⟨_, _, e, _⟩ := hc (by simp); cases e
    subst hb; subst hl
    have q := Lib.run_eql_slice_nil (P := Try.prog) w 27 5 none 0 c 0 0 Try.underlying27
    go_enter Try.func29, Try.ntmps29
    go_wp2
    go_ret
    exact ⟨none, 0, rfl, Below.refl _ _, Own.nil' _ _, by simp⟩
  | some a =>
    have HC := Lib.hid hc; clear hc
    have HL := Lib.hid hl; clear hl
    have q := Lib.run_eql_slice_nil (P := Try.prog) w 27 5 (some a) n c 0 0 Try.underlying27
    go_enter Try.func29, Try.ntmps29
    go_wp2_with (at_builtin; refine wpList_append' rfl (.tmp 5) (.tmp 6) el_u8 rfl rfl rfl (Own.alloc0 _ 1 _ _) (by rw [List.length_map, HL.out, Nat.mul_one]) (HC.out.below ((Below.refl _ _).alloc (Nat.le_refl _) _)) (one_cb bs) (by unfold maxLen; omega) (by omega) ?_; intro xo xc w2 hx hch _ hx2; simp only [Nat.zero_add, List.nil_append] at hx; have HO := Lib.hid hx; have HC2 := Lib.hid (chg_new (Below.refl _ _) hch); have HX2 := Lib.hid (new_blk (Below.refl _ _) hx2); clear hx hch hx2)
    go_ret
    exact ⟨xo, xc, rfl, HC2.out, HO.out, HX2.out⟩
end Go.Proofs.Ytebhbfjnobcckaa
