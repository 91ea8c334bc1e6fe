/-
  THE LAW PackPuts OF LAYER 2, WALKED.
-/
import Derived.Test.YtgodnlcjbfdkhaaPackV
import Derived.Deep.RegionHeld3
import Derived.Deep.RegionWith
namespace Go.Proofs.Ytgodnlcjbfdkhaa
open Go Go.RowKit

theorem packPuts_any (co : Option Addr) (e N : Nat) (l : List Thing) (w : World) (hN : l.length = N) (hc : RowOf w co 4 (ThingIs w) l) (hm : N ≤ maxLen) :
    Calls Try.prog 5 #[.slice co N e] w fun e w' => e = .returned (.bool true) ∧ Below w.heap.size w w' := by
  have HH := Lib.hid (And.intro hN (And.intro hc hm))
  clear hN hc hm
  by_cases hs : Short l
  · have HS := Lib.hid (And.intro hs (show false = true ↔ ¬ Short l by simp [hs]))
    have hlen : (encs l).length ≤ 60240 := by
      have h1 := encs_len l hs.2
      have h2 := hs.1
      omega
    clear hs
    go_enter Try.func5, Try.ntmps5
    go_wp2_with (first
      | (go_at_call 10; (with_reducible refine (awake _).mono ?_); rintro e1 w1 ⟨rfl, hw⟩; have HW := Lib.hid hw; clear hw)
      | (go_at_call 15; (with_reducible refine (long_any co e N l _ HH.out.1 (things_below HH.out.2.1 HW.out) HH.out.2.2 false HS.out.2).mono ?_); rintro e2 w2 ⟨rfl, hw⟩; have HW2 := Lib.hid (HW.out.trans (hw.mono HW.out.size)); clear hw)
      | (go_at_call 16; (with_reducible refine (put_all co e N l _ HH.out.1 (things_below HH.out.2.1 HW2.out) HS.out.1).mono ?_); rintro e3 w3 ⟨p, F, bo, n, cap, rfl, hb⟩; have HB := Lib.hid hb; have hnl : n = (encs l).length := (by have := hb.own.len; rw [List.length_map, Nat.mul_one] at this; exact this.symm); subst hnl; clear hb)
      | (go_at_call 14; (with_reducible refine (done_any p (encs l) F _ HB.out.wr (by omega)).mono ?_); rintro e4 w4 ⟨xo, xc, rfl, hb4, ho4, hx4⟩; have H4 := Lib.hid (And.intro hb4 (And.intro ho4 hx4)); clear hb4 ho4 hx4))
    obtain ⟨n, hn⟩ : ∃ n, n = (encs l).length := ⟨_, rfl⟩
    rw [← hn] at H4 HB ⊢
    have hn60 : n ≤ 60240 := by omega
    go_loopg [20] n (fun g i wr => ∃ (j : Nat) (l' : List UInt8), g + j = n ∧ i = .int .i64 j ∧ Own wr 1 xo n xc (l'.map cb) ∧ Chg (fun k => ∃ a, xo = some a ∧ a.block = k) w4 wr)
    case atStart => exact ⟨0, encs l, by omega, rfl, H4.out.2.1, Chg.refl _ _⟩
    case round =>
      obtain ⟨j, l', hj, rfl, hown, hchg⟩ := hrel
      by_cases hlt : j < n
      · have hxs : ∃ b off, xo = some ⟨b, off, none⟩ := by
          cases hx : xo with
          | none => have := hown.nil hx; have := hown.le; omega
          | some a => obtain ⟨b, off, sp⟩ := a; have := (hown.at_ _ hx).1; simp at this; exact ⟨b, off, by rw [this]⟩
        obtain ⟨b, off, rfl⟩ := hxs
        have hll : l'.length = n := by have := hown.len; rw [List.length_map, Nat.mul_one] at this; exact this
        obtain ⟨v, ev, c1, f1⟩ := own_at hown (k := j) (by omega)
        have HO := Lib.hid (And.intro hown hchg)
        clear hown hchg
        go_wp2
        go_roundg (gk - 1)
        case measure => omega
        case rel =>
          refine ⟨j + 1, l'.set j (v ^^^ 255), by omega, by go_num, ?_, HO.out.2.set ⟨_, rfl, rfl⟩ _ _⟩
          have := HO.out.1.set j (cb (v ^^^ 255)) (by omega)
          rw [List.map_set, show bits .xor .u8 (v.toNat : Int) 255 = ((v ^^^ 255).toNat : Int) from xor8 v 255]
          exact this
      · have hwr : WrAt wr p (encs l) F := (HB.out.wr.keep (Chg.of_below H4.out.1 (fun _ => False)) (fun _ _ h => h)).keep hchg (fun k hk ⟨a, ha, e⟩ => by have h1 := H4.out.2.2 a ha; have h2 := HB.out.wr.lt k hk; omega)
        have hbw : Bts wr bo (encs l) := hchg.bts ((HB.out.own.bts).below H4.out.1) (fun hz a ha ⟨b, hb, e⟩ => by have h1 := H4.out.2.2 b hb; have h2 := bts_lt HB.out.own.bts hz a ha; omega)
        have hbl : Below w.heap.size w wr := by
          have h1 := HW2.out.trans (HB.out.below.mono HW2.out.size)
          have h2 := h1.trans (H4.out.1.mono h1.size)
          exact h2.trans (hchg.below h2.size (fun k ⟨a, ha, e⟩ => by have := H4.out.2.2 a ha; have := h1.size; omega))
        have hl46 : (encs l).length ≤ 70368744177664 := by omega
        have kb := conv_bytes wr.drew Try.underlying22 Try.underlying5 Try.underlying9 bo n cap (encs l) hn.symm hbw.drew
        have HE := Lib.hid (And.intro hwr (And.intro hbw hbl))
        have HNN := Lib.hid hn
        have ks : ((strOf (encs l)).toList == (strOf (encs l)).toList) = true := by simp
        clear hwr hbw hbl hown hchg hn
        go_wp2
        go_region_with (go_at_call 14; (with_reducible refine (done_any p (encs l) F _ (HE.out.1.keep ((Chg.refl (fun _ => False) _).drew) (fun _ _ h => h)) hl46).mono ?_); rintro e5 w5 ⟨yo, yc, rfl, hb5, ho5, hx5⟩; have kc := conv_bytes w5 Try.underlying22 Try.underlying5 Try.underlying9 yo _ yc (encs l) rfl ho5.bts; have kd := conv_bytes w5 Try.underlying22 Try.underlying5 Try.underlying9 bo n cap (encs l) HNN.out.symm (HE.out.2.1.drew.below hb5); have H5 := Lib.hid hb5; clear hb5 ho5 hx5)
        all_goals go_wp2
        all_goals (go_ret; exact ⟨by first | rfl | simp [go_sem] | simp [Act.put, strOf_toList], HE.out.2.2.drew.trans (H5.out.mono HE.out.2.2.size)⟩)
  · have HLG := Lib.hid (fun w1 hc => long_any co e N l w1 HH.out.1 hc HH.out.2.2 true (by simp [hs]))
    clear hs
    go_enter Try.func5, Try.ntmps5
    go_wp2_with (first
      | (go_at_call 10; (with_reducible refine (awake _).mono ?_); rintro e1 w1 ⟨rfl, hw⟩; have HW := Lib.hid hw; clear hw)
      | (go_at_call 15; (with_reducible refine (HLG.out _ (things_below HH.out.2.1 HW.out)).mono ?_); rintro e2 w2 ⟨rfl, hw⟩; have HW2 := Lib.hid (HW.out.trans (hw.mono HW.out.size)); clear hw))
    go_ret
    exact ⟨rfl, HW2.out⟩
theorem packPuts_in (W : World) (base : Nat) (v0 : Value) (k0 : Value.okWide Try.prog W .any base 37 v0) (r0 : Rd Try.prog W 37 v0.cells.toList) :
    Calls Try.prog 5 #[v0] W fun e w' => e = .returned (.bool true) ∧ Below W.heap.size W w' := by
  obtain ⟨co, zs, e, rfl, hc, hl, hm⟩ := in_slice Try.underlying37 (size := 4) (by kernel_rfl) (by decide) (ThingIs W) (fun es h => thing_rd h) k0 r0
  exact packPuts_any co e _ zs W rfl hc (Nat.le_trans hl hm)
end Go.Proofs.Ytgodnlcjbfdkhaa
