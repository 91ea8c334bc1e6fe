/-
  LAYER 6: Key, one of few or any.
-/
import Derived.Test.YtebhbfjnobcckaaTreeN
namespace Go.Proofs.Ytebhbfjnobcckaa
open Go Go.RowKit

theorem key_empty (s : ByteArray) (w : World) (h : s.size = 0) : Calls Try.prog 24 #[.string s] w fun e w' => e = .returned (.string s) ∧ w = w' := by
  have h0 : ¬ (0 : Int) < (s.size : Int) := by omega
  go_enter Try.func24, Try.ntmps24
  go_wp2
  go_ret
  exact ⟨rfl, rfl⟩
def tabK (K1 K2 : ByteArray) : Array Value := #[.string ⟨#[97]⟩, .string ⟨#[98]⟩, .string ⟨#[97, 98]⟩, .string ⟨#[97, 98, 99]⟩, .string ⟨#[]⟩, .string ⟨#[111, 119, 110, 47, 120]⟩, .string ⟨#[111, 119, 110, 47, 121]⟩, .string K1, .string K2]
theorem tab_at (K1 K2 : ByteArray) (q : Nat) (hq : q < 9) : ∃ K, (tabK K1 K2)[q]? = some (.string K) := by
  have : q = 0 ∨ q = 1 ∨ q = 2 ∨ q = 3 ∨ q = 4 ∨ q = 5 ∨ q = 6 ∨ q = 7 ∨ q = 8 := by omega
  rcases this with rfl | rfl | rfl | rfl | rfl | rfl | rfl | rfl | rfl <;> exact ⟨_, rfl⟩
theorem tab_cell (W : World) (K1 K2 : ByteArray) (q : Nat) (hq : q < 9) : ∃ K, (W.alloc (.cells #[.string ⟨#[97]⟩, .string ⟨#[98]⟩, .string ⟨#[97, 98]⟩, .string ⟨#[97, 98, 99]⟩, .string ⟨#[]⟩, .string ⟨#[111, 119, 110, 47, 120]⟩, .string ⟨#[111, 119, 110, 47, 121]⟩, .string K1, .string K2] 9)).cell? ⟨W.heap.size, q, none⟩ = some (.string K) := by
  obtain ⟨K, hK⟩ := tab_at K1 K2 q hq
  exact ⟨K, (heap_cell (heap_top W _) q).trans hK⟩
set_option maxHeartbeats 2000000 in
set_option maxRecDepth 100000 in
theorem key_some (s : ByteArray) (w : World) (h : 0 < s.size) : Calls Try.prog 24 #[.string s] w fun e w' => ∃ K : ByteArray, e = .returned (.string K) ∧ Below w.heap.size w w' := by
  have h0 : (0 : Int) < (s.size : Int) := by omega
  obtain ⟨q, hq9, hqi⟩ : ∃ q : Nat, q < 9 ∧ (s[0].toNat : Int) % 9 = (q : Int) := ⟨s[0].toNat % 9, Nat.mod_lt _ (by decide), by omega⟩
  have hqt : (s[0].toNat : Int).tmod 9 = (q : Int) := by rw [Int.tmod_eq_emod_of_nonneg (by omega)]; exact hqi
  have hqw : (IntKind.i64.wrap (s[0].toNat : Int)).tmod 9 = (q : Int) := by
    have hb : s[0].toNat < 256 := s[0].toNat_lt
    rw [IntWalk.i64_in _ (by omega)]; exact hqt
  clear hqi hqt
  have hj9 : (q : Int) < 9 := by omega
  have hj0 : (0 : Int) ≤ (q : Int) := by omega
  go_enter Try.func24, Try.ntmps24
  go_upto_region 2 with fail
  · go_region_with (go_at_call 37; first
      | ((with_reducible refine (repeat_any ⟨#[107]⟩ 64 64 _ rfl (by decide) (by decide)).mono ?_); rintro e1 w1 ⟨K1, rfl, hb1⟩; have H1 := Lib.hid hb1; clear hb1)
      | ((with_reducible refine (repeat_any ⟨#[107]⟩ 65 65 _ rfl (by decide) (by decide)).mono ?_); rintro e2 w2 ⟨K2, rfl, hb2⟩; have H2 := Lib.hid hb2; clear hb2; obtain ⟨K, hK⟩ := tab_cell w2 K1 K2 q hq9))
    all_goals go_wp2
    all_goals (
      go_ret
      exact ⟨_, rfl, ((Below.refl w.heap.size w).drew.trans H1.out).trans ((H2.out.mono H1.out.size).alloc (Nat.le_trans H1.out.size H2.out.size) _)⟩)
  · go_wp2
    go_ret
    exact ⟨_, rfl, Below.refl _ _⟩
theorem key_any (s : ByteArray) (w : World) : Calls Try.prog 24 #[.string s] w fun e w' => ∃ K : ByteArray, e = .returned (.string K) ∧ Below w.heap.size w w' := by
  by_cases h : s.size = 0
  · refine (key_empty s w h).mono ?_
    rintro e w' ⟨rfl, rfl⟩
    exact ⟨s, rfl, Below.refl _ _⟩
  · exact key_some s w (by omega)
end Go.Proofs.Ytebhbfjnobcckaa
