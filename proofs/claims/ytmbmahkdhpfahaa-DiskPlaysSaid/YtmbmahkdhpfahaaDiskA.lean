/-
  LAYER 4: the law DiskAgain.
-/
import Derived.Test.YtmbmahkdhpfahaaDiskS
namespace Go.Proofs.Ytmbmahkdhpfahaa
open Go Go.RowKit Go.WideShapes

/-- A crash: how much is kept, which bit. -/
def PairIs (x : Int × Int) (cs : List Value) : Prop := cs = [.int .i64 x.1, .int .i64 x.2] ∧ (-9223372036854775808 ≤ x.1 ∧ x.1 ≤ 9223372036854775807)
theorem crash_sure (d : Dsk) (keep bit : Int) (h : d.sure ≤ d.b.length) : (d.crash keep bit).sure = (d.crash keep bit).b.length := (d.crash_len keep bit h).symm
theorem crash_again (d : Dsk) (keep bit : Int) (h : d.sure = d.b.length) : d.crash keep bit = d := by
  have hu : d.upto keep = d.b.length := by unfold Dsk.upto; omega
  unfold Dsk.crash
  rw [hu, if_neg (by omega), List.take_length]
  cases d; simp_all
set_option maxRecDepth 100000 in
set_option maxHeartbeats 1000000 in
theorem diskAgain_walk (ao bo co : Option Addr) (c d e : Nat) (xs ys : List UInt8) (zs : List (Int × Int)) (w : World) (ha : Bts w ao xs) (hb : Bts w bo ys) (hc : RowOf w co 2 PairIs zs) (hz : zs.length ≤ 9223372036854775807) :
    Calls Try.prog 4 #[.slice ao xs.length c, .slice bo ys.length d, .slice co zs.length e] w fun e w' => e = .returned (.bool true) ∧ Below w.heap.size w w' := by
  have HA := Lib.hid ha; clear ha
  have HB := Lib.hid hb; clear hb
  have HZ := Lib.hid hc; clear hc
  by_cases hl : 1000 < xs.length
  · have HL : decide (1000 < (xs.length : Int)) = true := by simpa using (by omega : (1000 : Int) < xs.length)
    go_enter Try.func4, Try.ntmps4
    go_wp2_with (go_at_call 7; refine (awake _).mono ?_; rintro e w1 ⟨rfl, hb⟩; have HB1 := Lib.hid hb; clear hb)
    go_ret
    exact ⟨rfl, HB1.out⟩
  by_cases hl' : 1000 < ys.length
  · have HL : decide (1000 < (xs.length : Int)) = false := by simpa using (by omega : (xs.length : Int) ≤ 1000)
    have HL' : decide (1000 < (ys.length : Int)) = true := by simpa using (by omega : (1000 : Int) < ys.length)
    go_enter Try.func4, Try.ntmps4
    go_wp2_with (go_at_call 7; refine (awake _).mono ?_; rintro e w1 ⟨rfl, hb⟩; have HB1 := Lib.hid hb; clear hb)
    go_ret
    exact ⟨rfl, HB1.out⟩
  have HL : decide (1000 < (xs.length : Int)) = false := by simpa using (by omega : (xs.length : Int) ≤ 1000)
  have HL' : decide (1000 < (ys.length : Int)) = false := by simpa using (by omega : (ys.length : Int) ≤ 1000)
  have h2 : xs.length ≤ 1000 := by omega
  have h3 : ys.length ≤ 1000 := by omega
  clear hl hl'
  go_enter Try.func4, Try.ntmps4
  go_wp2_with (first
    | (go_at_call 7; refine (awake _).mono ?_; rintro e w1 ⟨rfl, hb⟩; have HB1 := Lib.hid hb; clear hb)
    | (go_at_call 8; refine (new_mine 5000 (by decide) HB1.out).mono ?_; rintro e w2 ⟨rfl, hm⟩; have HM2 := Lib.hid hm; clear hm)
    | (go_at_call 9; (with_reducible refine (append_mine HM2.out _ _ _ xs rfl (HA.out.below HM2.out.below)).mono ?_); rintro e w3 ⟨rfl, hm⟩; rw [ap1 xs h2] at hm ⊢; have HM3 := Lib.hid hm; clear hm)
    | (go_at_call 9; (with_reducible refine (append_mine HM4.out _ _ _ ys rfl (HB.out.below HM4.out.below)).mono ?_); rintro e w5 ⟨rfl, hm⟩; rw [ap2 xs ys h2 h3] at hm ⊢; have HM5 := Lib.hid hm; clear hm)
    | (go_at_call 10; (with_reducible refine (sync_mine HM3.out).mono ?_); rintro e w4 ⟨rfl, hm⟩; have HM4 := Lib.hid (show Mine 48 w w4 _ ⟨5000, xs.length, xs⟩ from hm); clear hm))
  generalize w1.heap.size = p at *
  obtain ⟨F0, hF0⟩ := HM5.out.F
  have HF0 := Lib.hid hF0
  clear hF0
  go_loopg [9, 37] zs.length (fun g s i wr => ∃ (k : Nat) (dd : Dsk) (qo : Option Addr) (wl qc : Nat) (F : List Nat), g + k = zs.length ∧ i = .int .i64 k ∧ s = .slice qo wl qc ∧ MineF 48 w wr p dd F ∧ (0 < k → wl = dd.b.length ∧ dd.sure = dd.b.length ∧ Bts wr qo dd.b ∧ ∀ a, qo = some a → a.block ∉ F))
  case atStart => exact ⟨0, _, _, _, _, F0, by omega, rfl, rfl, HF0.out, fun h => by omega⟩
  case round =>
    obtain ⟨k, dd, qo, wl, qc, F, hk, rfl, rfl, hm, hq⟩ := hrel
    have HM := Lib.hid hm
    have HQ := Lib.hid hq
    clear hm hq
    by_cases hlt : k < zs.length
    · by_cases h20 : 20 < k
      · obtain ⟨zb, zoff, rfl, hz1⟩ := HZ.out (by omega)
        obtain ⟨es, hes, hpr, hcell⟩ := hz1 k hlt
        obtain ⟨rfl, hkeep⟩ := hpr
        have c0 := hcell 0 _ rfl
        have c1 := hcell 1 _ rfl
        clear hz1 hcell
        have d0 := (Chg.of_below HM.out.below (fun _ => False)).cell c0 (fun h => h)
        have d1 := (Chg.of_below HM.out.below (fun _ => False)).cell c1 (fun h => h)
        clear c0 c1
        simp only [Nat.add_zero] at d0
        go_wp2
        go_ret
        exact ⟨rfl, HM.out.below.alloc HM.out.below.size _⟩
      · obtain ⟨zb, zoff, rfl, hz1⟩ := HZ.out (by omega)
        obtain ⟨es, hes, hpr, hcell⟩ := hz1 k hlt
        obtain ⟨rfl, hkeep⟩ := hpr
        have c0 := hcell 0 _ rfl
        have c1 := hcell 1 _ rfl
        clear hz1 hcell
        have d0 := (Chg.of_below HM.out.below (fun _ => False)).cell c0 (fun h => h)
        have d1 := (Chg.of_below HM.out.below (fun _ => False)).cell c1 (fun h => h)
        clear c0 c1
        simp only [Nat.add_zero] at d0
        have hS := crash_sure dd zs[k].1 zs[k].2 HM.out.mine.ok.sure
        have HG := Lib.hid (fun h => crash_again dd zs[k].1 zs[k].2 h)
        have HK := Lib.hid hkeep
        have hb8 := HM.out.mine.ok.len
        have hb9 := HM.out.mine.ok.room
        have hS2 := dd.crash_len zs[k].1 zs[k].2 HM.out.mine.ok.sure
        have hS3 := dd.upto_le zs[k].1 HM.out.mine.ok.sure
        generalize hD : dd.crash zs[k].1 zs[k].2 = D at *
        have HS := Lib.hid hS
        have HD := Lib.hid hD
        have hbl : D.b.length ≤ 16777216 := by omega
        clear hkeep hS hD hS2 hS3 hb8 hb9
        generalize zs[k].1 = z1 at *
        generalize zs[k].2 = z2 at *
        by_cases h0 : k = 0
        · subst h0
          simp only [Nat.zero_mul, Nat.add_zero] at d0 d1
          go_wp2_with (first
            | (go_at_call 11; (with_reducible refine (crash_mine (HM.out.alloc _).mine _ _ HK.out).mono ?_); rintro e w6 ⟨rfl, hm⟩; rw [HD.out] at hm; obtain ⟨F6, hm⟩ := hm.F; have HM6 := Lib.hid hm; clear hm)
            | (go_at_call 12; (with_reducible refine (bytes_any _ _ F6 _ HM6.out.is).mono ?_); rintro e w7 ⟨po, cap, rfl, hb7, ho, hx⟩; have HM7 := Lib.hid (HM6.out.more hb7); have HX7 := Lib.hid (fun (a : Addr) (ha : po = some a) => (show a.block ∉ F6 from fun hf => Nat.lt_irrefl _ (Nat.lt_of_lt_of_le (HM6.out.is.lt _ hf) (hx a ha)))); have HO := Lib.hid ho; clear hb7 ho hx)
            | (go_at_call 13; (with_reducible refine (sure_mine HM7.out.mine).mono ?_); rintro e w7 ⟨rfl, rfl⟩; rw [HS.out]))
          go_roundg (gk - 1)
          case measure => omega
          case rel => exact ⟨1, D, po, _, cap, F6, by omega, by go_num, rfl, HM7.out, fun _ => ⟨rfl, HS.out, HO.out.bts, HX7.out⟩⟩
        · obtain ⟨hw1, hw2, hw3, hw4⟩ := HQ.out (by omega)
          have hDd := HG.out hw2
          have HX := Lib.hid (And.intro hw2 (And.intro hw3 hw4))
          have HE := Lib.hid hDd
          have h0' : 0 < k := by omega
          subst hw1
          clear hw2 hw3 hw4 hDd
          go_wp2_with (first
            | (go_at_call 11; (with_reducible refine (crash_any _ _ _ _ _ _ (HM.out.alloc _).is HK.out).mono ?_); rintro e w6 ⟨rfl, hn⟩; rw [HD.out, HE.out] at hn; obtain ⟨F6, hm, hc6, hg6⟩ := (HM.out.alloc _).step hn; have hq6 := hc6.row (HX.out.2.1.below ((Below.refl _ wr).alloc (Nat.le_refl _) _)) HX.out.2.2; have HQ6 := Lib.hid (show Bts w6 qo dd.b from hq6); have HM6 := Lib.hid hm; clear hm hn hc6 hg6 hq6)
            | (go_at_call 12; (with_reducible refine (bytes_any _ _ F6 _ HM6.out.is).mono ?_); rintro e w7 ⟨po, cap, rfl, hb7, ho, hx⟩; have ks1 := conv_bytes w7 Try.underlying22 Try.underlying5 Try.underlying9 po dd.b.length cap dd.b rfl ho.bts; have ks2 := conv_bytes w7 Try.underlying22 Try.underlying5 Try.underlying9 qo dd.b.length qc dd.b rfl (HQ6.out.below hb7); have HM7 := Lib.hid (HM6.out.more hb7); have HX7 := Lib.hid (fun (a : Addr) (ha : po = some a) => (show a.block ∉ F6 from fun hf => Nat.lt_irrefl _ (Nat.lt_of_lt_of_le (HM6.out.is.lt _ hf) (hx a ha)))); have HO := Lib.hid ho; clear hb7 ho hx)
            | (go_at_call 13; (with_reducible refine (sure_mine HM7.out.mine).mono ?_); rintro e w7 ⟨rfl, rfl⟩; rw [HX.out.1]))
          go_roundg (gk - 1)
          case measure => omega
          case rel => exact ⟨k + 1, dd, po, _, cap, F6, by omega, by go_num, rfl, HM7.out, fun _ => ⟨rfl, HX.out.1, HO.out.bts, HX7.out⟩⟩
    · go_wp2
      go_ret
      exact ⟨rfl, HM.out.below⟩
theorem pair_rd {w : World} {cs : List Value} (h : Rd Try.prog w 34 cs) : ∃ x, PairIs x cs := by
  have hu := Try.underlying34
  obtain ⟨hl, he⟩ := h.array hu
  obtain ⟨c0, c1, rfl⟩ := list2 (hl.trans (by kernel_rfl))
  have hc : Try.prog.cellsOf 3 = 1 := by kernel_rfl
  rw [hc] at he
  obtain ⟨n, e0, h0⟩ := (he 0 (by decide)).i64 Try.underlying3
  obtain ⟨m, e1, _⟩ := (he 1 (by decide)).i64 Try.underlying3
  simp at e0 e1
  subst e0 e1
  exact ⟨(n, m), rfl, h0⟩
theorem diskAgain_in (W : World) (base : Nat) (v0 v1 v2 : Value) (k0 : Value.okWide Try.prog W .any base 22 v0) (k1 : Value.okWide Try.prog W .any base 22 v1) (k2 : Value.okWide Try.prog W .any base 33 v2)
    (r0 : Rd Try.prog W 22 v0.cells.toList) (r1 : Rd Try.prog W 22 v1.cells.toList) (r2 : Rd Try.prog W 33 v2.cells.toList) :
    Calls Try.prog 4 #[v0, v1, v2] W fun e w' => e = .returned (.bool true) ∧ Below W.heap.size W w' := by
  obtain ⟨ao, xs, c, rfl, ha⟩ := in_bytes Try.underlying22 Try.underlying5 (by kernel_rfl) k0 r0
  obtain ⟨bo, ys, d, rfl, hb⟩ := in_bytes Try.underlying22 Try.underlying5 (by kernel_rfl) k1 r1
  obtain ⟨co, zs, e, rfl, hc, hl, hm⟩ := in_slice Try.underlying33 (size := 2) (by kernel_rfl) (by decide) PairIs (fun es h => pair_rd h) k2 r2
  exact diskAgain_walk _ _ _ _ _ _ _ _ _ _ ha hb hc (by unfold maxLen at hm; omega)
end Go.Proofs.Ytmbmahkdhpfahaa
