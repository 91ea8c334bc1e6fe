/-
  THE LAWS OF LAYER 1, WALKED: CrcSums, CrcMore.
-/
import Derived.Test.YtagahmneipppoaaCrcW
import Derived.Test.YtagahmneipppoaaOpen
import Derived.Test.YtagahmneipppoaaMem
namespace Go.Proofs.Ytagahmneipppoaa
open Go Go.RowKit Go.WideShapes

theorem crcSums_walk (ao : Option Addr) (c : Nat) (bs : List UInt8) (w : World) (hc : Bts w ao bs) :
    Calls Try.prog 3 #[.slice ao bs.length c] w fun e w' => e = .returned (.bool true) ∧ Below w.heap.size w w' := by
  have HC := Lib.hid hc; clear hc
  by_cases hl : 5000 < bs.length
  · have HL : decide (5000 < (bs.length : Int)) = true := by simpa using (by omega : (5000 : Int) < bs.length)
    go_enter Try.func3, Try.ntmps3
    go_wp2_with (go_at_call 7; refine (awake _).mono ?_; rintro e w1 ⟨rfl, hb⟩; have HB := Lib.hid hb; clear hb)
    go_ret
    exact ⟨rfl, HB.out⟩
  · have HL : decide (5000 < (bs.length : Int)) = false := by simpa using (by omega : (bs.length : Int) ≤ 5000)
    have hn : bs.length ≤ 140737488351232 := by omega
    go_enter Try.func3, Try.ntmps3
    go_wp2_with (first
      | (go_at_call 7; refine (awake _).mono ?_; rintro e w1 ⟨rfl, hb⟩; have HB := Lib.hid hb; clear hb)
      | (go_at_call 8; refine (sum_any _ _ _ _ hn (HC.out.below HB.out)).mono ?_; rintro e w' ⟨rfl, rfl⟩)
      | (go_at_call 9; refine (refsum_any _ _ _ _ hn (HC.out.below HB.out)).mono ?_; rintro e w' ⟨rfl, rfl⟩))
    go_ret
    exact ⟨rfl, HB.out⟩
theorem crcSums_in (W : World) (base : Nat) (v0 : Value) (k0 : Value.okWide Try.prog W .any base 22 v0) (r0 : Rd Try.prog W 22 v0.cells.toList) :
    Calls Try.prog 3 #[v0] W fun e w' => e = .returned (.bool true) ∧ Below W.heap.size W w' := by
  obtain ⟨ao, bs, cap, rfl, hb⟩ := in_bytes Try.underlying22 Try.underlying5 (by kernel_rfl) k0 r0
  exact crcSums_walk _ _ _ _ hb

theorem el_u8 : ElemOf Try.prog 22 5 (.int .u8 0) 1 1 := .mk' Try.underlying22 (by kernel_rfl) rfl (by decide)
theorem crcMore_walk (ao bo : Option Addr) (c d : Nat) (xs ys : List UInt8) (sum : BitVec 32) (w : World) (ha : Bts w ao xs) (hb : Bts w bo ys) :
    Calls Try.prog 4 #[.slice ao xs.length c, .slice bo ys.length d, .int .u32 (sum.toNat : Int)] w fun e w' => e = .returned (.bool true) ∧ Below w.heap.size w w' := by
  have HA := Lib.hid ha; clear ha
  have HB := Lib.hid hb; clear hb
  by_cases hl : 5000 < xs.length
  · have HL : decide (5000 < (xs.length : Int)) = true := by simpa using (by omega : (5000 : Int) < xs.length)
    go_enter Try.func4, Try.ntmps4
    go_wp2_with (go_at_call 7; refine (awake _).mono ?_; rintro e w1 ⟨rfl, hb⟩; have HB1 := Lib.hid hb; clear hb)
    go_ret
    exact ⟨rfl, HB1.out⟩
  by_cases hl' : 5000 < ys.length
  · have HL : decide (5000 < (xs.length : Int)) = false := by simpa using (by omega : (xs.length : Int) ≤ 5000)
    have HL' : decide (5000 < (ys.length : Int)) = true := by simpa using (by omega : (5000 : Int) < ys.length)
    go_enter Try.func4, Try.ntmps4
    go_wp2_with (go_at_call 7; refine (awake _).mono ?_; rintro e w1 ⟨rfl, hb⟩; have HB1 := Lib.hid hb; clear hb)
    go_ret
    exact ⟨rfl, HB1.out⟩
  · have HL : decide (5000 < (xs.length : Int)) = false := by simpa using (by omega : (xs.length : Int) ≤ 5000)
    have HL' : decide (5000 < (ys.length : Int)) = false := by simpa using (by omega : (ys.length : Int) ≤ 5000)
    have h2 : xs.length ≤ 5000 := by omega
    have h3 : ys.length ≤ 5000 := by omega
    clear hl hl'
    go_enter Try.func4, Try.ntmps4
    go_wp2_with (first
      | (go_at_call 7; refine (awake _).mono ?_; rintro e w1 ⟨rfl, hb⟩; have HB1 := Lib.hid hb; clear hb)
      | (at_builtin; refine wpList_append' rfl (.tmp 18) (.tmp 19) el_u8 rfl rfl rfl (Own.alloc0 _ 1 _ _) (by simp) (((HA.out.below HB1.out)).below ((Below.refl _ _).alloc (Nat.le_refl _) _)) (one_cb xs) (by unfold maxLen; omega) (by omega) ?_; intro xo xc w2 hx hch _ hx2; simp only [Nat.zero_add, List.nil_append] at hx; have HO := Lib.hid hx; have HC := Lib.hid (chg_new HB1.out hch); have HX2 := Lib.hid (new_blk HB1.out hx2); clear hx hch hx2)
      | (at_builtin; refine wpList_append' rfl (.tmp 20) (.tmp 21) el_u8 rfl rfl rfl HO.out (by simp) (HB.out.below HC.out) (one_cb ys) (by unfold maxLen; omega) (by omega) ?_; intro yo yc w3 hx hch _ _; rw [← List.map_append, ← List.length_append] at hx; have HO2 := Lib.hid hx.bts; have HC2 := Lib.hid (chg_on HC.out hch HC.out.size HX2.out); clear hx hch)
      | (go_at_call 8; (with_reducible refine (sum_any' ao _ _ xs _ rfl (by omega) ((HA.out.below HC2.out))).mono ?_); rintro e w' ⟨rfl, rfl⟩)
      | (go_at_call 9; (with_reducible refine (refsum_any' yo _ _ (xs ++ ys) _ (by simp) (by omega) HO2.out).mono ?_); rintro e w' ⟨rfl, rfl⟩)
      | (go_at_call 10; (with_reducible refine (more_any' sum ao _ _ xs _ rfl (by omega) ((HA.out.below HC2.out))).mono ?_); rintro e w' ⟨rfl, rfl⟩)
      | (go_at_call 10; (with_reducible refine (more_any' (crc xs) bo _ _ ys _ rfl (by omega) ((HB.out.below HC2.out))).mono ?_); rintro e w' ⟨rfl, rfl⟩; rw [show more (crc xs) ys = crc (xs ++ ys) from more_append _ _ _])
      | (go_at_call 10; (with_reducible refine (more_any' (more sum xs) bo _ _ ys _ rfl (by omega) ((HB.out.below HC2.out))).mono ?_); rintro e w' ⟨rfl, rfl⟩; rw [more_append])
      | (go_at_call 10; (with_reducible refine (more_any' sum yo _ _ (xs ++ ys) _ (by simp) (by omega) HO2.out).mono ?_); rintro e w' ⟨rfl, rfl⟩)
      | (go_at_call 10; (with_reducible refine (more_any' sum none _ _ [] _ (by simp) (by omega) (Bts.nil _ _)).mono ?_); rintro e w' ⟨rfl, rfl⟩; rw [more_nil]))
    go_ret
    exact ⟨rfl, HC2.out⟩
theorem crcMore_in (W : World) (base : Nat) (v0 v1 v2 : Value) (k0 : Value.okWide Try.prog W .any base 22 v0) (k1 : Value.okWide Try.prog W .any base 22 v1) (k2 : Value.okWide Try.prog W .any base 24 v2)
    (r0 : Rd Try.prog W 22 v0.cells.toList) (r1 : Rd Try.prog W 22 v1.cells.toList) (r2 : Rd Try.prog W 24 v2.cells.toList) :
    Calls Try.prog 4 #[v0, v1, v2] W fun e w' => e = .returned (.bool true) ∧ Below W.heap.size W w' := by
  obtain ⟨ao, bs, cap, rfl, hb⟩ := in_bytes Try.underlying22 Try.underlying5 (by kernel_rfl) k0 r0
  obtain ⟨bo, ys, cap', rfl, hb'⟩ := in_bytes Try.underlying22 Try.underlying5 (by kernel_rfl) k1 r1
  obtain ⟨s, rfl⟩ := in_u32 Try.underlying24 k2 r2
  exact crcMore_walk _ _ _ _ _ _ _ _ hb hb'
end Go.Proofs.Ytagahmneipppoaa
