/-
  THE LAWS OF LAYER 1, WALKED: CrcSums, CrcMore.
-/
import Derived.Test.YtagahmneipppoaaCrcW
import Derived.Test.YtagahmneipppoaaOpen
namespace Go.Proofs.Ytagahmneipppoaa
open Go Go.RowKit Go.WideShapes

theorem crcSums_walk (ao : Option Addr) (c : Nat) (bs : List UInt8) (w : World) (hc : Bts w ao bs) :
    Calls Try.prog 3 #[.slice ao bs.length c] w fun e w' => e = .returned (.bool true) ∧ Below w.heap.size w w' := by
  have HC := Lib.hid hc; clear hc
  by_cases hl : 5000 < bs.length
  · have HL : decide (5000 < (bs.length : Int)) = true := by simpa using (by omega : (5000 : Int) < bs.length)
    go_enter Try.func3, Try.ntmps3
    go_wp2_with (go_at_call 7; refine (awake _).mono ?_; rintro e w1 ⟨rfl, hb⟩; have HB := Lib.hid hb; clear hb)
    go_ret
    exact ⟨rfl, HB.out⟩
  · have HL : decide (5000 < (bs.length : Int)) = false := by simpa using (by omega : (bs.length : Int) ≤ 5000)
    have hn : bs.length ≤ 140737488351232 := by omega
    go_enter Try.func3, Try.ntmps3
    go_wp2_with (first
      | (go_at_call 7; refine (awake _).mono ?_; rintro e w1 ⟨rfl, hb⟩; have HB := Lib.hid hb; clear hb)
      | (go_at_call 8; refine (sum_any _ _ _ _ hn (HC.out.below HB.out)).mono ?_; rintro e w' ⟨rfl, rfl⟩)
      | (go_at_call 9; refine (refsum_any _ _ _ _ hn (HC.out.below HB.out)).mono ?_; rintro e w' ⟨rfl, rfl⟩))
    go_ret
    exact ⟨rfl, HB.out⟩
theorem crcSums_in (W : World) (base : Nat) (v0 : Value) (k0 : Value.okWide Try.prog W .any base 22 v0) (r0 : Rd Try.prog W 22 v0.cells.toList) :
    Calls Try.prog 3 #[v0] W fun e w' => e = .returned (.bool true) ∧ Below W.heap.size W w' := by
  obtain ⟨a0, l0, c0, rfl⟩ := okWide_slice Try.underlying22 k0
  obtain ⟨ao, bs, cap, hcs, _, _, _, hb⟩ := r0.bytes Try.underlying22 Try.underlying5 (by kernel_rfl)
  simp [Value.cells] at hcs
  obtain ⟨rfl, rfl, rfl⟩ := hcs
  exact crcSums_walk _ _ _ _ hb
end Go.Proofs.Ytagahmneipppoaa
