/-
  LAYER 8: the law MetaNil.
-/
import Derived.Test.YtackmgmaippajaaGreatMtF
namespace Go.Proofs.YtackmgmaippajaaGreat
open Go Go.RowKit

/-- A command, as the law is handed one. -/
structure CmIs (w : World) (c : Cm) (vo : Option Addr) (vc : Nat) (cs : List Value) : Prop where
  is : cs = [.int .u8 (c.kind : Int), .string c.key, .slice vo c.val.length vc, .int .u64 (c.want : Int), .int .u64 (c.sess : Int), .int .u64 (c.ticks : Int)]
  kind : c.kind < 256
  key : c.key.size ≤ maxLen
  val : Bts w vo c.val
  cap : c.val.length ≤ vc ∧ vc ≤ maxLen
  want : c.want < 18446744073709551616
  sess : c.sess < 18446744073709551616
  ticks : c.ticks < 18446744073709551616
set_option maxRecDepth 100000 in
theorem cm_rd {w : World} {cs : List Value} (h : Rd Tryz.prog w 39 cs) : ∃ c vo vc, CmIs w c vo vc cs := by
  have hu := Tryz.underlying39
  obtain ⟨c0, c1, c2, c3, c4, c5, rfl⟩ := list6 ((h.struct hu).1.trans (by kernel_rfl))
  obtain ⟨k, e0⟩ := (h.field hu 0 rfl (n := 1) (by kernel_rfl)).u8 Tryz.underlying37
  obtain ⟨key, e1, h1⟩ := (h.field hu 1 rfl (n := 1) (by kernel_rfl)).string Tryz.underlying9
  obtain ⟨vo, bs, c, e2, h2, h2', _, hb⟩ := (h.field hu 2 rfl (n := 1) (by kernel_rfl)).bytes Tryz.underlying25 Tryz.underlying5 (by kernel_rfl)
  obtain ⟨x, e3, h3⟩ := (h.field hu 3 rfl (n := 1) (by kernel_rfl)).u64 Tryz.underlying28
  obtain ⟨y, e4, h4⟩ := (h.field hu 4 rfl (n := 1) (by kernel_rfl)).u64 Tryz.underlying28
  obtain ⟨z, e5, h5⟩ := (h.field hu 5 rfl (n := 1) (by kernel_rfl)).u64 Tryz.underlying28
  simp at e0 e1 e2 e3 e4 e5
  subst e0 e1 e2 e3 e4 e5
  exact ⟨⟨k.toNat, key, bs, x, y, z⟩, vo, c, rfl, k.toNat_lt, h1, hb, ⟨h2, h2'⟩, h3, h4, h5⟩
end Go.Proofs.YtackmgmaippajaaGreat
