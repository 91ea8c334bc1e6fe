/-
  THE LAW NetNil OF LAYER 20, WALKED.
-/
import Derived.Test.YtgbfpllaianeaaaNetA
namespace Go.Proofs.Ytgbfpllaianeaaa
open Go Go.RowKit

/-- A call, as the statements have it. -/
structure ActOf where
  kind : UInt8
  frm : Int
  dst : Int
  body : List UInt8
  i : Int
  raw : Bool
structure ActIs (w : World) (t : ActOf) (cs : List Value) : Prop where
  is : ∃ ao cap, cs = [.int .u8 (t.kind.toNat : Int), .int .i64 t.frm, .int .i64 t.dst, .slice ao t.body.length cap, .int .i64 t.i, .bool t.raw] ∧ Bts w ao t.body
  frm64 : -9223372036854775808 ≤ t.frm ∧ t.frm ≤ 9223372036854775807
  dst64 : -9223372036854775808 ≤ t.dst ∧ t.dst ≤ 9223372036854775807
  i64 : -9223372036854775808 ≤ t.i ∧ t.i ≤ 9223372036854775807
  len : t.body.length ≤ maxLen
theorem act_rd {w : World} {cs : List Value} (h : Rd Try.prog w 43 cs) : ∃ t, ActIs w t cs := by
  have hu := Try.underlying43
  obtain ⟨c0, c1, c2, c3, c4, c5, rfl⟩ := list6 ((h.struct hu).1.trans (by kernel_rfl))
  obtain ⟨k, e0⟩ := (h.field hu 0 rfl (n := 1) (by kernel_rfl)).u8 Try.underlying5
  have hM := h.field hu 1 rfl (n := 3) (by kernel_rfl)
  obtain ⟨i, e4, hi⟩ := (h.field hu 2 rfl (n := 1) (by kernel_rfl)).i64 Try.underlying3
  obtain ⟨r, e5⟩ := (h.field hu 3 rfl (n := 1) (by kernel_rfl)).bool Try.underlying4
  have hum := Try.underlying29
  obtain ⟨f, e1, hf⟩ := (hM.field hum 0 rfl (n := 1) (by kernel_rfl)).i64 Try.underlying3
  obtain ⟨d, e2, hd⟩ := (hM.field hum 1 rfl (n := 1) (by kernel_rfl)).i64 Try.underlying3
  obtain ⟨ao, bs, c, e3, hc, hm, _, hb⟩ := (hM.field hum 2 rfl (n := 1) (by kernel_rfl)).bytes Try.underlying22 Try.underlying5 (by kernel_rfl)
  simp at e0 e1 e2 e3 e4 e5
  subst e0 e1 e2 e3 e4 e5
  exact ⟨⟨k, f, d, bs, i, r⟩, ⟨ao, c, rfl, hb⟩, hf, hd, hi, Nat.le_trans hc hm⟩
theorem act_cells {w : World} {p : Nat} {c0 c1 c2 c3 c4 c5 : Value} {t : TypeId} (h : w.heap[p]? = some (.cells #[c0, c1, c2, c3, c4, c5] t (0, 0))) :
    w.cell? ⟨p, 1, none⟩ = some c1 ∧ w.cell? ⟨p, 2, none⟩ = some c2 ∧ w.cell? ⟨p, 3, none⟩ = some c3 ∧ w.cell? ⟨p, 4, none⟩ = some c4 := by
  have h1 := heap_cell h 1
  have h2 := heap_cell h 2
  have h3 := heap_cell h 3
  have h4 := heap_cell h 4
  simp at h1 h2 h3 h4
  exact ⟨h1, h2, h3, h4⟩
theorem cut_nil (I : Int) (w : World) :
    Calls Try.prog 16 #[.pointer none, .int .i64 I] w fun e w' => e = .returned (.int .i64 0) ∧ Below w.heap.size w w' := by
  go_enter Try.func16, Try.ntmps16
  go_wp2
  go_ret
  exact ⟨rfl, (Below.refl _ w).alloc (Nat.le_refl _) _⟩
set_option maxHeartbeats 1000000 in
set_option maxRecDepth 100000 in
theorem netNil_any (k : UInt8) (f d i : Int) (ao : Option Addr) (n c : Nat) (r : Bool) (w : World) :
    Calls Try.prog 7 #[.agg #[.int .u8 (k.toNat : Int), .int .i64 f, .int .i64 d, .slice ao n c, .int .i64 i, .bool r]] w fun e w' => e = .returned (.bool true) ∧ Below w.heap.size w w' := by
  have hw := (Below.refl _ w).alloc (Nat.le_refl _) (.cells #[.int .u8 (k.toNat : Int), .int .i64 f, .int .i64 d, .slice ao n c, .int .i64 i, .bool r] 43)
  have hT := heap_top w (.cells #[.int .u8 (k.toNat : Int), .int .i64 f, .int .i64 d, .slice ao n c, .int .i64 i, .bool r] 43)
  have H0 := Lib.hid (And.intro hw hT)
  clear hw hT
  go_enter Try.func7, Try.ntmps7
  go_wp2_with (first
    | (go_at_call 8; (with_reducible refine (awake _).mono ?_); rintro e1 w1 ⟨rfl, hw⟩; have hT1 := (Chg.of_below hw (fun _ => False)).heap H0.out.2 (fun h => h); obtain ⟨q1, q2, q3, q4⟩ := act_cells hT1; have HW := Lib.hid (And.intro (H0.out.1.trans (hw.mono H0.out.1.size)) hT1); clear hw hT1)
    | (go_at_call 13; (with_reducible refine (take_nil i _).mono ?_); rintro e2 w2 ⟨rfl, hw⟩; have hb := (HW.out.1.trans (hw.mono HW.out.1.size)).alloc (HW.out.1.trans (hw.mono HW.out.1.size)).size (.cells #[.int .i64 0, .int .i64 0, .slice none 0 0] 29); have hT2 := heap_new (o := .cells #[.int .i64 0, .int .i64 0, .slice none 0 0] 29) ((Chg.of_below hw (fun _ => False)).heap HW.out.2 (fun h => h)); have hM := heap_top w2 (.cells #[.int .i64 0, .int .i64 0, .slice none 0 0] 29); obtain ⟨r1, r2, r3, r4⟩ := act_cells hT2; have H2 := Lib.hid (And.intro hb (And.intro hT2 hM)); clear hw hb hT2 hM)
    | (go_at_call 10; (with_reducible refine (send_nil _ f d ao n c _ rfl).mono ?_); rintro e3 w3 ⟨rfl, hw⟩; have hT3 := (Chg.of_below hw (fun _ => False)).heap H2.out.2.1 (fun h => h); have hM3 := (Chg.of_below hw (fun _ => False)).heap H2.out.2.2 (fun h => h); obtain ⟨s1, s2, s3, s4⟩ := act_cells hT3; obtain ⟨m0, m1, m2, _⟩ := cells3 hM3; have H3 := Lib.hid (H2.out.1.trans (hw.mono H2.out.1.size)); clear hw hT3 hM3)
    | (go_at_call 11; (with_reducible refine (double_nil i _).mono ?_); rintro e4 w4 ⟨rfl, rfl⟩)
    | (go_at_call 16; (with_reducible refine (cut_nil i _).mono ?_); rintro e5 w5 ⟨rfl, hw⟩; have H5 := Lib.hid (H3.out.trans (hw.mono H3.out.size)); clear hw)
    | (go_at_call 14; (with_reducible refine (len_nil _).mono ?_); rintro e4 w6 ⟨rfl, rfl⟩)
    | (go_at_call 12; (with_reducible refine (all_nil _).mono ?_); rintro e4 w6 ⟨rfl, rfl⟩))
  go_ret
  exact ⟨rfl, H5.out⟩
theorem netNil_in (W : World) (base : Nat) (v0 : Value) (k0 : Value.okWide Try.prog W .any base 43 v0) (r0 : Rd Try.prog W 43 v0.cells.toList) :
    Calls Try.prog 7 #[v0] W fun e w' => e = .returned (.bool true) ∧ Below W.heap.size W w' := by
  obtain ⟨cs, rfl, hcs⟩ := in_struct Try.underlying43 k0
  rw [hcs] at r0
  obtain ⟨t, ⟨ao, cap, rfl, _⟩, _, _, _⟩ := act_rd r0
  exact netNil_any t.kind t.frm t.dst t.i ao _ cap t.raw W
end Go.Proofs.Ytgbfpllaianeaaa
