/-
  LAYER 8: the law MetaNil.
-/
import Derived.Test.YtackmgmaippajaaMtF
namespace Go.Proofs.Ytackmgmaippajaa
open Go Go.RowKit

/-- A command, as the law is handed one. -/
structure CmIs (w : World) (c : Cm) (vo : Option Addr) (vc : Nat) (cs : List Value) : Prop where
  is : cs = [.int .u8 (c.kind : Int), .string c.key, .slice vo c.val.length vc, .int .u64 (c.want : Int), .int .u64 (c.sess : Int), .int .u64 (c.ticks : Int)]
  kind : c.kind < 256
  key : c.key.size ≤ maxLen
  val : Bts w vo c.val
  cap : c.val.length ≤ vc ∧ vc ≤ maxLen
  want : c.want < 18446744073709551616
  sess : c.sess < 18446744073709551616
  ticks : c.ticks < 18446744073709551616
set_option maxRecDepth 100000 in
theorem cm_rd {w : World} {cs : List Value} (h : Rd Try.prog w 37 cs) : ∃ c vo vc, CmIs w c vo vc cs := by
  have hu := Try.underlying37
  obtain ⟨c0, c1, c2, c3, c4, c5, rfl⟩ := list6 ((h.struct hu).1.trans (by kernel_rfl))
  obtain ⟨k, e0⟩ := (h.field hu 0 rfl (n := 1) (by kernel_rfl)).u8 Try.underlying35
  obtain ⟨key, e1, h1⟩ := (h.field hu 1 rfl (n := 1) (by kernel_rfl)).string Try.underlying9
  obtain ⟨vo, bs, c, e2, h2, h2', _, hb⟩ := (h.field hu 2 rfl (n := 1) (by kernel_rfl)).bytes Try.underlying22 Try.underlying5 (by kernel_rfl)
  obtain ⟨x, e3, h3⟩ := (h.field hu 3 rfl (n := 1) (by kernel_rfl)).u64 Try.underlying31
  obtain ⟨y, e4, h4⟩ := (h.field hu 4 rfl (n := 1) (by kernel_rfl)).u64 Try.underlying31
  obtain ⟨z, e5, h5⟩ := (h.field hu 5 rfl (n := 1) (by kernel_rfl)).u64 Try.underlying31
  simp at e0 e1 e2 e3 e4 e5
  subst e0 e1 e2 e3 e4 e5
  exact ⟨⟨k.toNat, key, bs, x, y, z⟩, vo, c, rfl, k.toNat_lt, h1, hb, ⟨h2, h2'⟩, h3, h4, h5⟩
set_option maxHeartbeats 2000000 in
set_option maxRecDepth 100000 in
theorem metaNil_any (c : Cm) (vo : Option Addr) (vc : Nat) (w : World) :
    Calls Try.prog 5 #[.agg (c.cells vo vc)] w fun e w' => e = .returned (.bool true) ∧ Below w.heap.size w w' := by
  obtain ⟨kind, key, val, want, sess, ticks⟩ := c
  dsimp only [Cm.cells]
  have HA := Lib.hid ((Below.refl w.heap.size w).alloc (Nat.le_refl _) (.cells #[.int .u8 (kind : Int), .string key, .slice vo val.length vc, .int .u64 (want : Int), .int .u64 (sess : Int), .int .u64 (ticks : Int)] 37))
  have hT := heap_top w (.cells #[.int .u8 (kind : Int), .string key, .slice vo val.length vc, .int .u64 (want : Int), .int .u64 (sess : Int), .int .u64 (ticks : Int)] 37)
  go_enter Try.func5, Try.ntmps5
  go_upto_region 1 with fail
  generalize w.alloc (.cells #[.int .u8 (kind : Int), .string key, .slice vo val.length vc, .int .u64 (want : Int), .int .u64 (sess : Int), .int .u64 (ticks : Int)] 37) = wa at *
  have HT := Lib.hid hT
  clear hT
  go_wp2_with (first
    | (go_at_call 6; (with_reducible refine (awake _).mono ?_); rintro e w1 ⟨rfl, hb⟩; have h1 := (Chg.of_below hb (fun _ => False)).heap HT.out (fun h => h); obtain ⟨a0, a1, a2, a3, a4, a5⟩ := cells6 h1 (Below.refl _ _); have H1 := Lib.hid (And.intro hb h1); clear hb h1)
    | (go_at_call 9; (with_reducible refine (nil_do _ _ _ _ _ _ _).mono ?_); rintro e w2 ⟨rfl, hb⟩; have h2 := (Chg.of_below hb (fun _ => False)).heap H1.out.2 (fun h => h); obtain ⟨b0, b1, b2, b3, b4, b5⟩ := cells6 h2 (Below.refl _ _); have H2 := Lib.hid (And.intro hb h2); clear hb h2)
    | (go_at_call 10; (with_reducible refine (nil_get _ _).mono ?_); rintro e w3 ⟨rfl, hb⟩; dsimp only [Tr.zeroNd]; have h3 := (Chg.of_below hb (fun _ => False)).heap H2.out.2 (fun h => h); obtain ⟨d0, d1, d2, d3, d4, d5⟩ := cells6 (heap_new (o := .cells #[.string ⟨#[]⟩, .slice none 0 0, .int .u64 0, .int .u64 0] 39) h3) (Below.refl _ _); have H3 := Lib.hid (And.intro hb h3); clear hb h3)
    | (go_at_call 8; (with_reducible refine (open_nil _).mono ?_); rintro e w4 ⟨rfl, rfl⟩)
    | (go_at_call 12; (with_reducible refine (nil_list _ _).mono ?_); rintro e w5 ⟨rfl, rfl⟩)
    | (go_at_call 13; (with_reducible refine (nil_now _).mono ?_); rintro e w6 ⟨rfl, rfl⟩)
    | (go_at_call 11; (with_reducible refine (nil_live _ _).mono ?_); rintro e w7 ⟨rfl, n7, rfl⟩))
  go_ret
  have b1 := HA.out.trans (H1.out.1.mono HA.out.size)
  have b2 := b1.trans (H2.out.1.mono b1.size)
  have b3 := b2.trans (H3.out.1.mono b2.size)
  exact ⟨rfl, below_drewN (b3.alloc b3.size _) _⟩
set_option maxRecDepth 100000 in
theorem metaNil_in (W : World) (base : Nat) (v0 : Value) (k0 : Value.okWide Try.prog W .any base 37 v0) (r0 : Rd Try.prog W 37 v0.cells.toList) :
    Calls Try.prog 5 #[v0] W fun e w' => e = .returned (.bool true) ∧ Below W.heap.size W w' := by
  obtain ⟨cs, rfl, hcs⟩ := in_struct Try.underlying37 k0
  rw [hcs] at r0
  obtain ⟨c, vo, vc, h⟩ := cm_rd r0
  rw [h.is]
  exact metaNil_any c vo vc W
end Go.Proofs.Ytackmgmaippajaa
