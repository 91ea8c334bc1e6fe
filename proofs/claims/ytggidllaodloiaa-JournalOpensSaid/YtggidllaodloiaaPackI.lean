/-
  THE LAW PackFrames OF LAYER 2, WALKED.
-/
import Derived.Test.YtggidllaodloiaaPackH
import Derived.Test.YtggidllaodloiaaPackM
import Derived.StillTactics
namespace Go.Proofs.Ytggidllaodloiaa
open Go Go.RowKit

theorem put4 (ao : Option Addr) (n cap : Nat) (bs cs : List UInt8) (N M : Nat) (w : World) (h : Own w 1 ao n cap (bs.map cb)) (hn : n ≤ 70368744177664) (hN : N < 18446744073709551616) (hM : n + 4 = M) (hc : cs = bs ++ be 4 N) :
    Calls Try.prog 26 #[.slice ao n cap, .int .u64 (N : Int), .int .i64 4] w fun e w' => ∃ ao' cap', e = .returned (.slice ao' M cap') ∧ SlApp w ao w' ao' M cap' cs := by
  subst hM hc
  exact put_any ao n cap bs N 4 w h hn hN (by decide)
set_option maxHeartbeats 1000000 in
set_option maxRecDepth 100000 in
theorem refframe_big (ao : Option Addr) (n c N : Nat) (bs : List UInt8) (w : World) (hl : bs.length = n) (hn : n ≤ 100000) (hb : Bts w ao bs) (hN : N = n + 8) :
    Calls Try.prog 20 #[.slice ao n c] w fun e w' => ∃ fo fc, e = .returned (.slice fo N fc) ∧ Below w.heap.size w w' ∧ Bts w' fo (frame bs) := by
  subst hl
  have HB := Lib.hid hb
  clear hb
  have hcr := (crc bs).isLt
  have hu := IntWalk.u64_in (bs.length : Int) (by omega)
  have hu2 := IntWalk.u64_in ((crc bs).toNat : Int) (by omega)
  go_enter Try.func20, Try.ntmps20
  go_wp2_with (first
    | (go_at_call 26; (with_reducible refine (put4 none 0 0 [] (be 4 bs.length) bs.length 4 _ (Own.nil' _ _) (by decide) (by omega) rfl rfl).mono ?_); rintro e1 w1 ⟨xo, xc, rfl, hx⟩; have hb1 := hx.other HB.out (by simp); have H1 := Lib.hid (And.intro hx hb1); clear hx hb1)
    | (go_at_call 27; (with_reducible refine (refsum_any' ao _ c bs _ rfl (by omega) H1.out.2).mono ?_); rintro e2 w2 ⟨rfl, rfl⟩)
    | (go_at_call 26; (with_reducible refine (put4 xo 4 xc (be 4 bs.length) (be 4 bs.length ++ be 4 (crc bs).toNat) (crc bs).toNat 8 _ H1.out.1.own (by decide) (by omega) rfl rfl).mono ?_); rintro e3 w3 ⟨yo, yc, rfl, hy⟩; have H3 := Lib.hid (H1.out.1.more hy.own hy.chg hy.at_); clear hy; have HB3 := Lib.hid (H3.out.other HB.out (by simp)))
    | (at_builtin; refine wpList_append' rfl (.tmp 10) (.tmp 11) el_u8 rfl rfl rfl H3.out.own (m := bs.length) (news := bs.map cb) (by rw [List.length_map, Nat.mul_one]) HB3.out (one_cb _) (by unfold maxLen; omega) (by omega) ?_; intro zo zc w4 hz hch _ hz2; have H4 := Lib.hid (And.intro hz (And.intro hch hz2)); clear hz hch hz2))
  go_ret
  obtain ⟨hz, hch, hz2⟩ := H4.out
  rw [← List.map_append] at hz
  have hm := H3.out.more hz hch hz2
  refine ⟨zo, zc, by rw [hN, Nat.add_comm bs.length 8]; rfl, hm.chg.below (Nat.le_refl _) (by rintro k ⟨a, ha, _⟩; cases ha), ?_⟩
  have := hm.own.bts
  simpa [frame] using this
theorem refframe_any (ao : Option Addr) (n c N : Nat) (bs : List UInt8) (w : World) (hl : bs.length = n) (hn : n ≤ 4096) (hb : Bts w ao bs) (hN : N = n + 8) :
    Calls Try.prog 20 #[.slice ao n c] w fun e w' => ∃ fo fc, e = .returned (.slice fo N fc) ∧ Below w.heap.size w w' ∧ Bts w' fo (frame bs) :=
  refframe_big ao n c N bs w hl (by omega) hb hN
end Go.Proofs.Ytggidllaodloiaa
