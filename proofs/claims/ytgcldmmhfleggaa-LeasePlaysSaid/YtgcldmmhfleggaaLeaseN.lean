/-
  THE LAW LeaseNil OF LAYER 7, WALKED.
-/
import Derived.Test.YtgcldmmhfleggaaLeaseP
namespace Go.Proofs.Ytgcldmmhfleggaa
open Go Go.RowKit

theorem open_nil (a b : Int) (w : World) : Calls Try.prog 10 #[.pointer none, .int .u64 a, .int .u64 b] w fun e w' => e = .returned (.tuple #[.int .u64 0, .int .i64 1]) ∧ w = w' := by
  go_enter Try.func10, Try.ntmps10
  go_wp2
  go_ret2
  exact ⟨rfl, rfl⟩
theorem all_nil (w : World) : Calls Try.prog 15 #[.pointer none] w fun e w' => e = .returned (.tuple #[.int .u64 0, .slice none 0 0]) ∧ w = w' := by
  go_enter Try.func15, Try.ntmps15
  go_wp2
  go_ret2
  exact ⟨rfl, rfl⟩
theorem renew_nil (a b : Int) (w : World) : Calls Try.prog 13 #[.pointer none, .int .u64 a, .int .u64 b] w fun e w' => e = .returned (.int .i64 1) ∧ w = w' := by
  go_enter Try.func13, Try.ntmps13
  go_wp2
  go_ret
  exact ⟨rfl, rfl⟩
theorem close_nil (a : Int) (w : World) : Calls Try.prog 16 #[.pointer none, .int .u64 a] w fun e w' => e = .returned (.int .i64 1) ∧ w = w' := by
  go_enter Try.func16, Try.ntmps16
  go_wp2
  go_ret
  exact ⟨rfl, rfl⟩
theorem live_nil (a b : Int) (w : World) : Calls Try.prog 11 #[.pointer none, .int .u64 a, .int .u64 b] w fun e w' => e = .returned (.bool false) ∧ w = w' := by
  go_enter Try.func11, Try.ntmps11
  go_wp2
  go_ret
  exact ⟨rfl, rfl⟩
theorem expire_nil (a : Int) (w : World) : Calls Try.prog 12 #[.pointer none, .int .u64 a] w fun e w' => e = .returned (.slice none 0 0) ∧ Below w.heap.size w w' := by
  go_enter Try.func12, Try.ntmps12
  go_wp2
  go_ret
  exact ⟨rfl, ((Below.refl _ w).alloc (Nat.le_refl _) _).alloc (by rw [size_alloc]; omega) _⟩
theorem cells4 {w : World} {p : Nat} {a b c d : Value} {t : TypeId} (h : w.heap[p]? = some (.cells #[a, b, c, d] t (0, 0))) :
    w.cell? ⟨p, 1, none⟩ = some b ∧ w.cell? ⟨p, 2, none⟩ = some c ∧ w.cell? ⟨p, 3, none⟩ = some d := by
  have h1 := heap_cell h 1
  have h2 := heap_cell h 2
  have h3 := heap_cell h 3
  simp at h1 h2 h3
  exact ⟨h1, h2, h3⟩
set_option maxHeartbeats 1000000 in
set_option maxRecDepth 100000 in
theorem leaseNil_any (k a b c : Int) (w : World) :
    Calls Try.prog 7 #[.agg #[.int .u8 k, .int .u64 a, .int .u64 b, .int .u64 c]] w fun e w' => e = .returned (.bool true) ∧ Below w.heap.size w w' := by
  have hw := (Below.refl _ w).alloc (Nat.le_refl _) (.cells #[.int .u8 k, .int .u64 a, .int .u64 b, .int .u64 c] 40)
  have hT := heap_top w (.cells #[.int .u8 k, .int .u64 a, .int .u64 b, .int .u64 c] 40)
  have H0 := Lib.hid (And.intro hw hT)
  clear hw hT
  go_enter Try.func7, Try.ntmps7
  go_wp2_with (first
    | (go_at_call 8; (with_reducible refine (awake _).mono ?_); rintro e1 w1 ⟨rfl, hw⟩; have hT1 := (Chg.of_below hw (fun _ => False)).heap H0.out.2 (fun h => h); obtain ⟨q1, q2, q3⟩ := cells4 hT1; have HW := Lib.hid (And.intro (H0.out.1.trans (hw.mono H0.out.1.size)) hT1); clear hw hT1)
    | (go_at_call 10; (with_reducible refine (open_nil b c _).mono ?_); rintro e2 w2 ⟨rfl, rfl⟩)
    | (go_at_call 15; (with_reducible refine (all_nil _).mono ?_); rintro e3 w3 ⟨rfl, rfl⟩)
    | (go_at_call 13; (with_reducible refine (renew_nil a b _).mono ?_); rintro e4 w4 ⟨rfl, rfl⟩)
    | (go_at_call 16; (with_reducible refine (close_nil a _).mono ?_); rintro e5 w5 ⟨rfl, rfl⟩)
    | (go_at_call 12; (with_reducible refine (expire_nil b _).mono ?_); rintro e6 w6 ⟨rfl, hw⟩; have hT2 := (Chg.of_below hw (fun _ => False)).heap HW.out.2 (fun h => h); obtain ⟨r1, r2, r3⟩ := cells4 hT2; have H6 := Lib.hid (HW.out.1.trans (hw.mono HW.out.1.size)); clear hw hT2)
    | (go_at_call 11; (with_reducible refine (live_nil a b _).mono ?_); rintro e7 w7 ⟨rfl, rfl⟩))
  go_ret
  exact ⟨rfl, H6.out⟩
theorem leaseNil_in (W : World) (base : Nat) (v0 : Value) (k0 : Value.okWide Try.prog W .any base 40 v0) (r0 : Rd Try.prog W 40 v0.cells.toList) :
    Calls Try.prog 7 #[v0] W fun e w' => e = .returned (.bool true) ∧ Below W.heap.size W w' := by
  obtain ⟨cs, rfl, hcs⟩ := in_struct Try.underlying40 k0
  rw [hcs] at r0
  obtain ⟨t, rfl, _⟩ := act_rd r0
  exact leaseNil_any _ _ _ _ W
end Go.Proofs.Ytgcldmmhfleggaa
