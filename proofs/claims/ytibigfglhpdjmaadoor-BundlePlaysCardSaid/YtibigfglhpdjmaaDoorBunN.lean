/-
  BundleNil, walked; an act.
-/
import Derived.Test.YtibigfglhpdjmaaDoorBunF
namespace Go.Proofs.YtibigfglhpdjmaaDoor
open Go Go.RowKit

theorem join_nil (z : Int) (w : World) : Calls Tryd.prog 17 #[.pointer none, .int .i64 z] w fun e w' => e = .returned (.int .i64 1) ∧ Below w.heap.size w w' := by
  go_enter Tryd.func17, Tryd.ntmps17
  go_wp2
  go_ret
  exact ⟨rfl, (Below.refl _ w).alloc (Nat.le_refl _) _⟩
theorem all_nil (w : World) : Calls Tryd.prog 16 #[.pointer none] w fun e w' => e = .returned (.slice none 0 0) ∧ Below w.heap.size w w' := by
  go_enter Tryd.func16, Tryd.ntmps16
  go_wp2
  go_ret
  exact ⟨rfl, Below.refl _ _⟩
structure ActT where
  join : Bool
  at_ : Int
  raw : Bool
def ActIs (t : ActT) (cs : List Value) : Prop := cs = [.bool t.join, .int .i64 t.at_, .bool t.raw] ∧ -9223372036854775808 ≤ t.at_ ∧ t.at_ ≤ 9223372036854775807
theorem act_rd {w : World} {cs : List Value} (h : Rd Tryd.prog w 35 cs) : ∃ t, ActIs t cs := by
  have hu := Tryd.underlying35
  obtain ⟨c0, c1, c2, rfl⟩ := list3 ((h.struct hu).1.trans (by kernel_rfl))
  obtain ⟨j, e0⟩ := (h.field hu 0 rfl (n := 1) (by kernel_rfl)).bool Tryd.underlying4
  obtain ⟨z, e1, h1, h2⟩ := (h.field hu 1 rfl (n := 1) (by kernel_rfl)).i64 Tryd.underlying3
  obtain ⟨r, e2⟩ := (h.field hu 2 rfl (n := 1) (by kernel_rfl)).bool Tryd.underlying4
  simp at e0 e1 e2
  subst e0 e1 e2
  exact ⟨⟨j, z, r⟩, rfl, h1, h2⟩
-- BEGIN1
set_option maxHeartbeats 1000000 in
theorem bundleNil_any (j : Bool) (z : Int) (r : Bool) (W : World) (hT : Tab W) :
    Calls Tryd.prog 7 #[.agg #[.bool j, .int .i64 z, .bool r]] W fun e w' => e = .returned (.bool true) ∧ Below W.heap.size W w' := by
  have HT := Lib.hid hT
  have HA := Lib.hid ((Below.refl W.heap.size W).alloc (Nat.le_refl _) (.cells #[.bool j, .int .i64 z, .bool r] 35))
  obtain ⟨a0, a1, a2, _⟩ := cells3 (heap_top W (.cells #[.bool j, .int .i64 z, .bool r] 35))
  clear hT
  go_enter Tryd.func7, Tryd.ntmps7
  go_wp2_with fail
  (with_reducible refine (awake _ (HT.out.below HA.out)).mono ?_)
  rintro e1 w1 ⟨rfl, hb1⟩
  have HB1 := Lib.hid (HA.out.trans (hb1.mono HA.out.size))
  obtain ⟨b0, b1, b2, _⟩ := cells3 ((hb1.block W.heap.size (by rw [size_alloc]; omega)).trans (heap_top W (.cells #[.bool j, .int .i64 z, .bool r] 35)))
  have hh1 := Lib.hid ((hb1.block W.heap.size (by rw [size_alloc]; omega)).trans (heap_top W (.cells #[.bool j, .int .i64 z, .bool r] 35)))
  clear hb1
  go_wp2_with fail
  (with_reducible refine (of_out none z _ (.inl rfl)).mono ?_)
  rintro e2 w2 ⟨rfl, hb2⟩
  have hlt : W.heap.size < w1.heap.size := heap_lt hh1.out
  have hh2 := Lib.hid ((hb2.block W.heap.size hlt).trans hh1.out)
  obtain ⟨c0, c1, c2, _⟩ := cells3 hh2.out
  have HB2 := Lib.hid (HB1.out.trans (hb2.mono HB1.out.size))
  clear hb2
  go_wp2_with fail
  (with_reducible refine (split_nil z _).mono ?_)
  rintro e3 w3 ⟨rfl, hb3⟩
  have hh3 := Lib.hid ((hb3.block W.heap.size (heap_lt hh2.out)).trans hh2.out)
  obtain ⟨d0, d1, d2, _⟩ := cells3 hh3.out
  have HB3 := Lib.hid (HB2.out.trans (hb3.mono HB2.out.size))
  clear hb3
  go_wp2_with fail
  (with_reducible refine (join_nil z _).mono ?_)
  rintro e4 w4 ⟨rfl, hb4⟩
  have HB4 := Lib.hid (HB3.out.trans (hb4.mono HB3.out.size))
  clear hb4
  go_wp2_with fail
  (with_reducible refine (all_nil _).mono ?_)
  rintro e5 w5 ⟨rfl, hb5⟩
  have HB5 := Lib.hid (HB4.out.trans (hb5.mono HB4.out.size))
  clear hb5
  go_wp2
  go_ret
  exact ⟨rfl, HB5.out⟩
-- END1
theorem bundleNil_in (W : World) (base : Nat) (hT : Tab W) (v0 : Value) (k0 : Value.okWide Tryd.prog W .any base 35 v0) (r0 : Rd Tryd.prog W 35 v0.cells.toList) :
    Calls Tryd.prog 7 #[v0] W fun e w' => e = .returned (.bool true) ∧ Below W.heap.size W w' := by
  obtain ⟨cs, rfl, hcs⟩ := in_struct Tryd.underlying35 k0
  rw [hcs] at r0
  obtain ⟨t, rfl, _⟩ := act_rd r0
  exact bundleNil_any _ _ _ W hT
end Go.Proofs.YtibigfglhpdjmaaDoor
