/-
  THE LAW PackFrames OF LAYER 2, WALKED.
-/
import Derived.Test.YtgodnlcjbfdkhaaPackJ
namespace Go.Proofs.Ytgodnlcjbfdkhaa
open Go Go.RowKit

theorem str_same (bs : List UInt8) : ((strOf bs).toList == (strOf bs).toList) = true := by simp
set_option maxHeartbeats 4000000 in
set_option maxRecDepth 100000 in
theorem packFrames_any (ao : Option Addr) (n c : Nat) (bs : List UInt8) (w : World) (hl : bs.length = n) (hb : Bts w ao bs) (hnc : n ≤ c) (hm : c ≤ maxLen) :
    Calls Try.prog 7 #[.slice ao n c] w fun e w' => e = .returned (.bool true) ∧ Below w.heap.size w w' := by
  have HH := Lib.hid (And.intro hl (And.intro hb hm))
  clear hl hb
  unfold maxLen at hm
  by_cases h6 : 6000 < n
  · go_enter Try.func7, Try.ntmps7
    go_wp2_with (go_at_call 10; (with_reducible refine (awake _).mono ?_); rintro e1 w1 ⟨rfl, hw⟩; have HW := Lib.hid hw; clear hw)
    go_ret
    exact ⟨rfl, HW.out⟩
  · have hn6 : n ≤ 1000000 := by omega
    have HU := Lib.hid (fun (w1 : World) (hw : Below w.heap.size w w1) => unframe_all ao n c bs w1 HH.out.1 hn6 (HH.out.2.1.below hw) hnc HH.out.2.2)
    have HV := Lib.hid (fun (w1 : World) (hw : Below w.heap.size w w1) => refunframe_all ao n c bs w1 HH.out.1 hn6 (HH.out.2.1.below hw) hnc HH.out.2.2)
    have hs1 := str_same (unf bs).1
    have hs2 := str_same (unf bs).2.1
    by_cases h4 : 4096 < n
    · go_enter Try.func7, Try.ntmps7
      go_wp2_with (first
        | (go_at_call 10; (with_reducible refine (awake _).mono ?_); rintro e1 w1 ⟨rfl, hw⟩; have HW := Lib.hid hw; clear hw)
        | (go_at_call 24; (with_reducible refine (frame_long ao n c _ h4 hn6).mono ?_); rintro e2 w2 ⟨rfl, rfl⟩)
        | (go_at_call 26; (with_reducible refine (HU.out _ HW.out).mono ?_); rintro e3 w3 ⟨bo, bc, ro, rc, rfl, hw3, g1, g2⟩; have H3 := Lib.hid (And.intro (HW.out.trans (hw3.mono HW.out.size)) (And.intro g1 g2)); clear hw3 g1 g2)
        | (go_at_call 27; (with_reducible refine (HV.out _ H3.out.1).mono ?_); rintro e4 w4 ⟨xo, xc, yo, yc, rfl, hw4, g1, g2⟩; have k1 := conv_bytes w4 Try.underlying22 Try.underlying5 Try.underlying9 bo _ bc (unf bs).1 rfl (H3.out.2.1.below hw4); have k2 := conv_bytes w4 Try.underlying22 Try.underlying5 Try.underlying9 ro _ rc (unf bs).2.1 rfl (H3.out.2.2.below hw4); have k3 := conv_bytes w4 Try.underlying22 Try.underlying5 Try.underlying9 xo _ xc (unf bs).1 rfl g1; have k4 := conv_bytes w4 Try.underlying22 Try.underlying5 Try.underlying9 yo _ yc (unf bs).2.1 rfl g2; have H4 := Lib.hid (H3.out.1.trans (hw4.mono H3.out.1.size)); clear hw4 g1 g2))
      go_ret
      exact ⟨rfl, H4.out⟩
    · have h4n : n ≤ 4096 := by omega
      have HFL := Lib.hid (show (frame bs).length = n + 8 by rw [frame_len, HH.out.1])
      have hs3 := str_same (frame bs)
      go_enter Try.func7, Try.ntmps7
      go_wp2_with (first
        | (go_at_call 10; (with_reducible refine (awake _).mono ?_); rintro e1 w1 ⟨rfl, hw⟩; have HW := Lib.hid hw; clear hw)
        | (go_at_call 24; (with_reducible refine (frame_any ao n c (n + 8) bs _ HH.out.1 h4n (HH.out.2.1.below HW.out) rfl).mono ?_); rintro e2 w2 ⟨fo, fc, rfl, hw2, ho, _⟩; have H2 := Lib.hid (And.intro (HW.out.trans (hw2.mono HW.out.size)) ho.bts); clear hw2 ho))
      have k0 := conv_bytes w2.drew Try.underlying22 Try.underlying5 Try.underlying9 fo _ fc (frame bs) HFL.out H2.out.2.drew
      have H2D := Lib.hid (show Below w.heap.size w w2.drew from H2.out.1.drew)
      go_region_with (go_at_call 25; (with_reducible refine (refframe_any ao n c (n + 8) bs _ HH.out.1 h4n (HH.out.2.1.below H2D.out) rfl).mono ?_); rintro e3 w3 ⟨go, gc, rfl, hw3, g1⟩; have k1 := conv_bytes w3 Try.underlying22 Try.underlying5 Try.underlying9 go _ gc (frame bs) HFL.out g1; have k2 := conv_bytes w3 Try.underlying22 Try.underlying5 Try.underlying9 fo _ fc (frame bs) HFL.out (H2.out.2.drew.below hw3); have H3 := Lib.hid (H2D.out.trans (hw3.mono H2D.out.size)); clear hw3 g1)
      all_goals (
        clear k0
        have HX := Lib.hid H3.out
        clear H3
        go_wp2_with (first
          | (go_at_call 26; (with_reducible refine (HU.out _ HX.out).mono ?_); rintro e3 w5 ⟨bo, bc, ro, rc, rfl, hw3, g1, g2⟩; have H3 := Lib.hid (And.intro (HX.out.trans (hw3.mono HX.out.size)) (And.intro g1 g2)); clear hw3 g1 g2)
          | (go_at_call 27; (with_reducible refine (HV.out _ H3.out.1).mono ?_); rintro e4 w4 ⟨xo, xc, yo, yc, rfl, hw4, g1, g2⟩; have k1 := conv_bytes w4 Try.underlying22 Try.underlying5 Try.underlying9 bo _ bc (unf bs).1 rfl (H3.out.2.1.below hw4); have k2 := conv_bytes w4 Try.underlying22 Try.underlying5 Try.underlying9 ro _ rc (unf bs).2.1 rfl (H3.out.2.2.below hw4); have k3 := conv_bytes w4 Try.underlying22 Try.underlying5 Try.underlying9 xo _ xc (unf bs).1 rfl g1; have k4 := conv_bytes w4 Try.underlying22 Try.underlying5 Try.underlying9 yo _ yc (unf bs).2.1 rfl g2; have H4 := Lib.hid (H3.out.1.trans (hw4.mono H3.out.1.size)); clear hw4 g1 g2))
        go_ret
        exact ⟨rfl, H4.out⟩)
theorem packFrames_in (W : World) (base : Nat) (v0 : Value) (k0 : Value.okWide Try.prog W .any base 22 v0) (r0 : Rd Try.prog W 22 v0.cells.toList) :
    Calls Try.prog 7 #[v0] W fun e w' => e = .returned (.bool true) ∧ Below W.heap.size W w' := by
  obtain ⟨ao, bs, c, rfl, h1, h2, h3⟩ := in_bytesC Try.underlying22 Try.underlying5 (by kernel_rfl) k0 r0
  exact packFrames_any ao _ c bs W rfl h1 h2 h3
end Go.Proofs.Ytgodnlcjbfdkhaa
