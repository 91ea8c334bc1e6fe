/-
  slices.Clone of bytes.
-/
import Derived.Test.YtgbfpllaianeaaaProg
import Derived.Test.YtgbfpllaianeaaaMem
import Derived.Lib.SliceRun
import Derived.WalkLawsBesides
namespace Go.Proofs.Ytgbfpllaianeaaa
open Go Go.RowKit

theorem el_u8 : ElemOf Try.prog 22 5 (.int .u8 0) 1 1 := .mk' Try.underlying22 (by kernel_rfl) rfl (by decide)
theorem clone_any (ao : Option Addr) (n c : Nat) (bs : List UInt8) (w : World) (hl : bs.length = n) (hn : n ≤ 140737488351232) (hc : Bts w ao bs) :
    Calls Try.prog 21 #[.slice ao n c] w fun e w' => ∃ bo cap, e = .returned (.slice bo n cap) ∧ Below w.heap.size w w' ∧ Own w' 1 bo n cap (bs.map cb) ∧ ∀ a, bo = some a → w.heap.size ≤ a.block := by
  cases ao with
  | none =>
    have hb : bs = [] := by
      cases bs with
      | nil => rfl
      | cons b bs => obtain ⟨_, _, e, _⟩ := hc (by simp); cases e
    subst hb; subst hl
    have q := Lib.run_eql_slice_nil (P := Try.prog) w 22 5 none 0 c 0 0 Try.underlying22
    go_enter Try.func21, Try.ntmps21
    go_wp2
    go_ret
    exact ⟨none, 0, rfl, Below.refl _ _, Own.nil' _ _, by simp⟩
  | some a =>
    have HC := Lib.hid hc; clear hc
    have HL := Lib.hid hl; clear hl
    have q := Lib.run_eql_slice_nil (P := Try.prog) w 22 5 (some a) n c 0 0 Try.underlying22
    go_enter Try.func21, Try.ntmps21
    go_wp2_with (at_builtin; refine wpList_append' rfl (.tmp 5) (.tmp 6) el_u8 rfl rfl rfl (Own.alloc0 _ 1 _ _) (by rw [List.length_map, HL.out, Nat.mul_one]) (HC.out.below ((Below.refl _ _).alloc (Nat.le_refl _) _)) (one_cb bs) (by unfold maxLen; omega) (by omega) ?_; intro xo xc w2 hx hch _ hx2; simp only [Nat.zero_add, List.nil_append] at hx; have HO := Lib.hid hx; have HC2 := Lib.hid (chg_new (Below.refl _ _) hch); have HX2 := Lib.hid (new_blk (Below.refl _ _) hx2); clear hx hch hx2)
    go_ret
    exact ⟨xo, xc, rfl, HC2.out, HO.out, HX2.out⟩
end Go.Proofs.Ytgbfpllaianeaaa
