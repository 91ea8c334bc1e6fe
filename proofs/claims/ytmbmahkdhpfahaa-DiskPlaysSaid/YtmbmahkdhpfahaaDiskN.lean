/-
  LAYER 4: the law DiskNil.
-/
import Derived.Test.YtmbmahkdhpfahaaDiskM
import Derived.KernelRfl
namespace Go.Proofs.Ytmbmahkdhpfahaa
open Go Go.RowKit Go.WideShapes

theorem sync_nil (w : World) : Calls Try.prog 10 #[.pointer none] w fun e w' => e = .returned (.tuple #[]) ∧ w = w' := by
  go_enter Try.func10, Try.ntmps10
  go_wp2
  go_end0
  exact ⟨rfl, rfl⟩
theorem crash_nil (keep bit : Int) (w : World) : Calls Try.prog 11 #[.pointer none, .int .i64 keep, .int .i64 bit] w fun e w' => e = .returned (.tuple #[]) ∧ w = w' := by
  go_enter Try.func11, Try.ntmps11
  go_wp2
  exact bodyPost_ret (results_none rfl _ _ _) rfl ⟨rfl, rfl⟩
theorem append_nil (ao : Option Addr) (n c : Nat) (w : World) : Calls Try.prog 9 #[.pointer none, .slice ao n c] w fun e w' => e = .returned (.int .i64 1) ∧ w = w' := by
  go_enter Try.func9, Try.ntmps9
  go_wp2
  go_ret
  exact ⟨rfl, rfl⟩
theorem cut_nil (n : Int) (w : World) : Calls Try.prog 15 #[.pointer none, .int .i64 n] w fun e w' => e = .returned (.int .i64 1) ∧ w = w' := by
  go_enter Try.func15, Try.ntmps15
  go_wp2
  go_ret
  exact ⟨rfl, rfl⟩
theorem bytes_nil (w : World) : Calls Try.prog 12 #[.pointer none] w fun e w' => e = .returned (.slice none 0 0) ∧ w = w' := by
  go_enter Try.func12, Try.ntmps12
  go_wp2
  go_ret
  exact ⟨rfl, rfl⟩
theorem sure_nil (w : World) : Calls Try.prog 13 #[.pointer none] w fun e w' => e = .returned (.int .i64 0) ∧ w = w' := by
  go_enter Try.func13, Try.ntmps13
  go_wp2
  go_ret
  exact ⟨rfl, rfl⟩
/-- A call as data. -/
structure Act where
  kind : UInt8
  bs : List UInt8
  n : Int
  keep : Int
  bit : Int
structure ActIs (w : World) (a : Act) (cs : List Value) : Prop where
  is : ∃ ao c, cs = [.int .u8 (a.kind.toNat : Int), .slice ao a.bs.length c, .int .i64 a.n, .int .i64 a.keep, .int .i64 a.bit] ∧ Bts w ao a.bs
  n : -9223372036854775808 ≤ a.n ∧ a.n ≤ 9223372036854775807
  keep : -9223372036854775808 ≤ a.keep ∧ a.keep ≤ 9223372036854775807
  bit : -9223372036854775808 ≤ a.bit ∧ a.bit ≤ 9223372036854775807
theorem act_rd {w : World} {cs : List Value} (h : Rd Try.prog w 41 cs) : ∃ a, ActIs w a cs := by
  have hu := Try.underlying41
  obtain ⟨c0, c1, c2, c3, c4, rfl⟩ := list5 ((h.struct hu).1.trans (by kernel_rfl))
  obtain ⟨k, e0⟩ := (h.field hu 0 rfl (n := 1) (by kernel_rfl)).u8 Try.underlying5
  obtain ⟨ao, bs, c, e1, _, _, _, hb⟩ := (h.field hu 1 rfl (n := 1) (by kernel_rfl)).bytes Try.underlying22 Try.underlying5 (by kernel_rfl)
  obtain ⟨n, e2, h2⟩ := (h.field hu 2 rfl (n := 1) (by kernel_rfl)).i64 Try.underlying3
  obtain ⟨k3, e3, h3⟩ := (h.field hu 3 rfl (n := 1) (by kernel_rfl)).i64 Try.underlying3
  obtain ⟨k4, e4, h4⟩ := (h.field hu 4 rfl (n := 1) (by kernel_rfl)).i64 Try.underlying3
  simp at e0 e1 e2 e3 e4
  subst e0 e1 e2 e3 e4
  exact ⟨⟨k, bs, n, k3, k4⟩, ⟨ao, c, rfl, hb⟩, h2, h3, h4⟩
theorem diskNil_walk (w : World) (k : UInt8) (ao : Option Addr) (n c : Nat) (m keep bit : Int) :
    Calls Try.prog 6 #[.agg #[.int .u8 (k.toNat : Int), .slice ao n c, .int .i64 m, .int .i64 keep, .int .i64 bit]] w fun e w' => e = .returned (.bool true) ∧ Below w.heap.size w w' := by
  go_enter Try.func6, Try.ntmps6
  go_wp2_with (first
    | (go_at_call 7; refine (awake _).mono ?_; rintro e w1 ⟨rfl, hb⟩; have hc := heap_alloc_new w (.cells #[.int .u8 (k.toNat : Int), .slice ao n c, .int .i64 m, .int .i64 keep, .int .i64 bit] 41); have hc1 := (Chg.of_below hb (fun _ => False)).heap hc (fun h => h); have c1 := heap_cell hc1 1; have c2 := heap_cell hc1 2; have c3 := heap_cell hc1 3; have c4 := heap_cell hc1 4; have HB := Lib.hid (((Below.refl _ w).alloc (Nat.le_refl _) (.cells #[.int .u8 (k.toNat : Int), .slice ao n c, .int .i64 m, .int .i64 keep, .int .i64 bit] 41)).trans (hb.mono (by simp))); clear hb hc hc1; simp at c1 c2 c3 c4)
    | (go_at_call 10; refine (sync_nil _).mono ?_; rintro e w' ⟨rfl, rfl⟩)
    | (go_at_call 11; refine (crash_nil _ _ _).mono ?_; rintro e w' ⟨rfl, rfl⟩)
    | (go_at_call 9; refine (append_nil _ _ _ _).mono ?_; rintro e w' ⟨rfl, rfl⟩)
    | (go_at_call 15; refine (cut_nil _ _).mono ?_; rintro e w' ⟨rfl, rfl⟩)
    | (go_at_call 12; refine (bytes_nil _).mono ?_; rintro e w' ⟨rfl, rfl⟩)
    | (go_at_call 13; refine (sure_nil _).mono ?_; rintro e w' ⟨rfl, rfl⟩))
  go_ret
  exact ⟨rfl, HB.out⟩
theorem diskNil_in (W : World) (base : Nat) (v0 : Value) (k0 : Value.okWide Try.prog W .any base 41 v0) (r0 : Rd Try.prog W 41 v0.cells.toList) :
    Calls Try.prog 6 #[v0] W fun e w' => e = .returned (.bool true) ∧ Below W.heap.size W w' := by
  obtain ⟨cs, rfl, e⟩ := in_struct Try.underlying41 k0
  rw [e] at r0
  obtain ⟨a, ⟨ao, c, rfl, _⟩, _⟩ := act_rd r0
  exact diskNil_walk W _ _ _ _ _ _ _
end Go.Proofs.Ytmbmahkdhpfahaa
