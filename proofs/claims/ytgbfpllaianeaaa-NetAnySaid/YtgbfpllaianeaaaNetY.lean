/-
  THE LAW NetAny OF LAYER 20, WALKED.
-/
import Derived.Test.YtgbfpllaianeaaaNetX
namespace Go.Proofs.Ytgbfpllaianeaaa
open Go Go.RowKit

set_option maxHeartbeats 4000000 in
set_option maxRecDepth 100000 in
theorem netAny_any (ao : Option Addr) (n c : Nat) (bs : List UInt8) (po : Option Addr) (m d : Nat) (ps : List Nat) (w : World) (hl : bs.length = n) (hb : Bts w ao bs) (hn : n ≤ maxLen)
    (hpl : ps.length = m) (hp : RowOf w po 1 (fun x cs => cs = [.int .u16 ((x : Nat) : Int)] ∧ x < 65536) ps) (hpm : m ≤ maxLen) :
    Calls Try.prog 4 #[.slice ao n c, .slice po m d] w fun e w' => e = .returned (.bool true) ∧ Below w.heap.size w w' := by
  have HH := Lib.hid (And.intro hl (And.intro hb (And.intro hpl hp)))
  clear hl hb hpl hp
  unfold maxLen at hn hpm
  have hz := zero_cnt
  have hEQ := eql_cnt
  go_enter Try.func4, Try.ntmps4
  go_wp2_with (first
    | (go_at_call 8; (with_reducible refine (awake _).mono ?_); rintro e1 w1 ⟨rfl, hw⟩; have HW := Lib.hid hw; clear hw)
    | (go_at_call 9; (with_reducible refine (new_in w _ HW.out).mono ?_); rintro e1 w2 ⟨p, rfl, _, hn1⟩; have H1 := Lib.hid hn1; clear hn1))
  have h0 : NetC w (w2.alloc (.cells (cnt []) 37)) p w2.heap.size [] [] := by
    refine ⟨⟨[p], H1.out.alloc _, ?_⟩, heap_top _ _, H1.out.below.size⟩
    have := H1.out.net.lt p (by simp)
    simp; omega
  have H0 := Lib.hid h0
  clear h0
  generalize w2.heap.size = T at *
  generalize w2.alloc (.cells (cnt []) 37) = wa at *
  go_loopg [21] n (fun g v wr => ∃ (k : Nat) (L : List UInt8), g + k = n ∧ v = .int .i64 k ∧ NetC w wr p T L L ∧ L.length ≤ 100 ∧ L.length ≤ k)
  case atStart => exact ⟨0, [], by omega, rfl, H0.out, by simp, by simp⟩
  case round =>
    obtain ⟨k, L, hgk, rfl, hnet, hL, hLk⟩ := hrel
    have HN := Lib.hid hnet
    clear hnet
    by_cases hk : k < n
    · obtain ⟨z, off, rfl, hcell⟩ := HH.out.2.1.below HN.out.below (by intro h; have := congrArg List.length h; rw [List.length_map, HH.out.1] at this; simp at this; omega)
      obtain ⟨b, hb⟩ : ∃ b, bs[k]? = some b := ⟨_, List.getElem?_eq_getElem (by rw [HH.out.1]; exact hk)⟩
      have c0 := hcell k (cb b) (by rw [List.getElem?_map, hb]; rfl)
      clear hcell hb
      unfold cb at c0
      by_cases h100 : k < 100
      · have HA := Lib.hid (Bts.alloc wr #[.int .u8 (b.toNat : Int)] 5 (0, 0) [b] rfl)
        have HLL := Lib.hid (show L.length < 4096 by omega)
        have hbt := b.toNat_lt
        have hbi : (b.toNat : Int) < 256 := by omega
        have hcl : L.count b ≤ L.length := List.count_le_length
        have hcw := IntWalk.wrap64_in ((L.count b : Int) + 1) (by omega)
        go_wp2_with (go_at_call 10; (with_reducible refine (send_c w p T L L _ 1 b _ HA.out (HN.out.alloc _) HLL.out).mono ?_); rintro e2 w3 ⟨rfl, hn3⟩; obtain ⟨d0, d1⟩ := hn3.cell b; have H3 := Lib.hid hn3; clear hn3)
        go_roundg (gk - 1)
        case measure => omega
        case rel =>
          refine ⟨k + 1, L ++ [b], by omega, by go_num, ?_, by simp; omega, by simp; omega⟩
          exact H3.out.set b _ (cnt_more L b _ rfl)
      · go_wp2
        go_roundg (gk - 1)
        case measure => omega
        case rel => exact ⟨k + 1, L, by omega, by go_num, HN.out, hL, by omega⟩
    · go_wp2
      obtain ⟨G1, rfl⟩ : ∃ G1, G1 = gk := ⟨_, rfl⟩
      obtain ⟨L0, rfl⟩ : ∃ L0, L0 = L := ⟨_, rfl⟩
      obtain ⟨k1, rfl⟩ : ∃ k1, k1 = k := ⟨_, rfl⟩
      go_loopg [44] m (fun g v wr => ∃ (k : Nat) (L : List UInt8), g + k = m ∧ v = .int .i64 k ∧ NetC w wr p T L L ∧ L.length ≤ 301 ∧ L.length ≤ 100 + k)
      case atStart => exact ⟨0, L0, by omega, rfl, HN.out, by omega, by omega⟩
      case round =>
        clear HN
        obtain ⟨k, L, hgk2, rfl, hnet, hL2, hLk2⟩ := hrel
        have HN := Lib.hid hnet
        clear hnet
        by_cases hk2 : k < m
        · obtain ⟨zb, zoff, rfl, hz1⟩ := HH.out.2.2.2 (by rw [HH.out.2.2.1]; omega)
          have hkl : k < ps.length := by rw [HH.out.2.2.1]; exact hk2
          obtain ⟨es, hes, ⟨rfl, hx⟩, hcell⟩ := hz1 k hkl
          have c0 := (Chg.of_below HN.out.below (fun _ => False)).cell (hcell 0 _ rfl) (fun h => h)
          simp only [Nat.add_zero, Nat.mul_one] at c0
          generalize ps[k] = x at *
          clear hcell hz1 hes hkl
          by_cases h200 : k ≤ 200
          · cases hLe : L with
            | nil =>
              have HL0 := Lib.hid (show L.length = 0 by rw [hLe]; rfl)
              clear hLe
              go_wp2_with (go_at_call 14; (with_reducible refine (len_c w p T L L 0 _ HN.out HL0.out).mono ?_); rintro e6 w6 ⟨rfl, rfl⟩)
              obtain ⟨Gx, rfl⟩ : ∃ Gx, Gx = gk := ⟨_, rfl⟩
              obtain ⟨wt, rfl⟩ : ∃ wt, wt = wr := ⟨_, rfl⟩
              obtain ⟨Lx, rfl⟩ : ∃ Lx, Lx = L := ⟨_, rfl⟩
              go_loopg [15] Lx.length (fun g v wx => ∃ L : List UInt8, g = L.length ∧ NetC w wx p T L L ∧ L.length ≤ 301)
              case atStart => exact ⟨Lx, rfl, HN.out, by omega⟩
              case round =>
                obtain ⟨L, hg, hnet, hL⟩ := hrel
                clear HN
                have HN := Lib.hid hnet
                clear hnet
                cases L with
                | nil =>
                  clear hg
                  have HL0 := Lib.hid (show ([] : List UInt8).length = 0 from rfl)
                  go_wp2_with (first
                    | (go_at_call 14; (with_reducible refine (len_c w p T [] [] 0 _ HN.out HL0.out).mono ?_); rintro e6 w6 ⟨rfl, rfl⟩)
                    | (refine wpList_load_row rfl (.tmp 6) rfl rfl HN.out.cells Try.underlying37 cnt_info ?_))
                  go_ret
                  exact ⟨rfl, HN.out.below⟩
                | cons b L =>
                  subst hg
                  have hbt := b.toNat_lt
                  have hbi : (b.toNat : Int) < 256 := by omega
                  have hcl : (b :: L).count b ≤ (b :: L).length := List.count_le_length
                  have hc1 : 0 < (b :: L).count b := List.count_pos_iff.2 (by simp)
                  have hll : (b :: L).length = L.length + 1 := rfl
                  have hcw := IntWalk.wrap64_in (((b :: L).count b : Int) - 1) (by omega)
                  have HM := Lib.hid (And.intro (show (b :: L)[0]? = some b from rfl) (And.intro (show (b :: L).length ≤ 4096 by omega) (cnt_less (b :: L) b 0 _ rfl rfl)))
                  have HLn := Lib.hid hll
                  clear hll
                  generalize (b :: L).count b = C at *
                  go_wp2_with (first
                    | (go_at_call 14; (with_reducible refine (len_c w p T (b :: L) (b :: L) (L.length + 1) _ HN.out HLn.out).mono ?_); rintro e6 w6 ⟨rfl, rfl⟩)
                    | (go_at_call 13; (with_reducible refine (take_c w p T (b :: L) (b :: L) 0 0 b _ HN.out rfl HM.out.1 HM.out.2.1).mono ?_); rintro e5 w5 ⟨bo, bc, rfl, hn5, ho5, hT5⟩; obtain ⟨zq, oq, rfl, hq⟩ := own_byte (ho5.keep ((Chg.refl (fun _ => False) w5).alloc (.cells #[.int .i64 0, .int .i64 0, .slice bo 1 bc] 29)) (fun _ _ h => h)); obtain ⟨d0, d1⟩ := (hn5.alloc (.cells #[.int .i64 0, .int .i64 0, .slice (some ⟨zq, oq, none⟩) 1 bc] 29)).cell b; have H5 := Lib.hid hn5; clear hn5 ho5))
                  go_roundg L.length
                  case measure => have := HLn.out; omega
                  case rel =>
                    have hLn := HLn.out
                    refine ⟨L, rfl, ?_, by omega⟩
                    exact (H5.out.alloc _).set b _ (cnt_less (b :: L) b 0 _ rfl (by rw [IntWalk.wrap64_in _ (by have := List.count_le_length (a := b) (l := L); omega)]; simp))
            | cons b0 L1 =>
              have hlp : 0 < L.length := by rw [hLe]; simp
              clear hLe
              obtain ⟨N, hN⟩ : ∃ N, N = L.length := ⟨_, rfl⟩
              have HNL := Lib.hid hN.symm
              have hN0 : 0 < N := by omega
              have hN301 : N ≤ 301 := by omega
              clear hlp hN
              have hN0i : (0 : Int) < (N : Int) := by omega
              have hNne : ((N : Int) == 0) = false := by simp; omega
              have hNn : N ≠ 0 := by omega
              have hx2 : (x : Int) % 2 = 0 ∨ (x : Int) % 2 = 1 := by omega
              obtain ⟨K, hK, hKN⟩ := pick_at (x := x) hN0
              obtain ⟨b, hb⟩ : ∃ b, L[K]? = some b := ⟨_, List.getElem?_eq_getElem (by rw [HNL.out]; exact hKN)⟩
              have HB := Lib.hid hb
              obtain ⟨hcw, hcv, hge, hbi⟩ := cnt_facts hb (Nat.le_trans hL2 (by decide))
              have hKi : (K : Int) < (N : Int) := Int.ofNat_lt.2 hKN
              clear hb
              rcases hx2 with hx2 | hx2
              · have HT := Lib.hid (show L.length ≤ 4096 by rw [HNL.out]; omega)
                go_wp2_with (first
                  | (go_at_call 14; (with_reducible refine (len_c w p T L L N _ HN.out HNL.out).mono ?_); rintro e6 w6 ⟨rfl, rfl⟩)
                  | (go_at_call 13; (with_reducible refine (take_c w p T L L (K : Int) K b _ HN.out rfl HB.out HT.out).mono ?_); rintro e5 w5 ⟨bo, bc, rfl, hn5, ho5, hT5⟩; obtain ⟨zq, oq, rfl, hq⟩ := own_byte (ho5.keep ((Chg.refl (fun _ => False) w5).alloc (.cells #[.int .i64 0, .int .i64 0, .slice bo 1 bc] 29)) (fun _ _ h => h)); obtain ⟨d0, d1⟩ := (hn5.alloc (.cells #[.int .i64 0, .int .i64 0, .slice (some ⟨zq, oq, none⟩) 1 bc] 29)).cell b; obtain ⟨y2, yq, yd⟩ := after_set (.int .i64 ((L.count b : Int) - 1)) hn5 ho5 (hT5 _ rfl); have H5 := Lib.hid hn5; clear hn5 ho5))
                go_roundg (gk - 1)
                case measure => omega
                case rel =>
                  have hle : (L.eraseIdx K).length ≤ L.length := List.length_eraseIdx_le ..
                  exact ⟨k + 1, L.eraseIdx K, by omega, by go_num, (H5.out.alloc _).set b _ (cnt_less L b K _ HB.out rfl), by omega, by omega⟩
              · have HM := Lib.hid (show L.length < 4096 by rw [HNL.out]; omega)
                have HM2 := Lib.hid (show N ≤ 4096 by omega)
                go_wp2_with (first
                  | (go_at_call 14; (with_reducible refine (len_c w p T L L N _ HN.out HNL.out).mono ?_); rintro e6 w6 ⟨rfl, rfl⟩)
                  | (go_at_call 12; (with_reducible refine (all_c w p T L L N K b _ HN.out HNL.out HM2.out HB.out).mono ?_); rintro e5 w5 ⟨za, offa, capa, bo, bc, rfl, hn5, g2, ho5⟩; obtain ⟨zq, oq, rfl, hq⟩ := own_byte ho5; obtain ⟨d0, d1⟩ := hn5.cell b; have H5 := Lib.hid (hn5.set b (.int .i64 ((L.count b : Int) + 1)) (cnt_more L b _ rfl)); clear hn5 ho5)
                  | (go_at_call 11; (with_reducible refine (double_c w p T L (L ++ [b]) (K : Int) K b _ H5.out rfl HB.out HM.out).mono ?_); rintro e7 w7 ⟨rfl, hn7⟩; have H7 := Lib.hid hn7; clear hn7))
                go_roundg (gk - 1)
                case measure => omega
                case rel => exact ⟨k + 1, L ++ [b], by omega, by go_num, H7.out, by simp; omega, by simp; omega⟩
          · go_wp2
            obtain ⟨Gx, rfl⟩ : ∃ Gx, Gx = gk := ⟨_, rfl⟩
            obtain ⟨wt, rfl⟩ : ∃ wt, wt = wr := ⟨_, rfl⟩
            obtain ⟨Lx, rfl⟩ : ∃ Lx, Lx = L := ⟨_, rfl⟩
            go_loopg [15] Lx.length (fun g v wx => ∃ L : List UInt8, g = L.length ∧ NetC w wx p T L L ∧ L.length ≤ 301)
            case atStart => exact ⟨Lx, rfl, HN.out, by omega⟩
            case round =>
              obtain ⟨L, hg, hnet, hL⟩ := hrel
              clear HN
              have HN := Lib.hid hnet
              clear hnet
              cases L with
              | nil =>
                clear hg
                have HL0 := Lib.hid (show ([] : List UInt8).length = 0 from rfl)
                go_wp2_with (first
                  | (go_at_call 14; (with_reducible refine (len_c w p T [] [] 0 _ HN.out HL0.out).mono ?_); rintro e6 w6 ⟨rfl, rfl⟩)
                  | (refine wpList_load_row rfl (.tmp 6) rfl rfl HN.out.cells Try.underlying37 cnt_info ?_))
                go_ret
                exact ⟨rfl, HN.out.below⟩
              | cons b L =>
                subst hg
                have hbt := b.toNat_lt
                have hbi : (b.toNat : Int) < 256 := by omega
                have hcl : (b :: L).count b ≤ (b :: L).length := List.count_le_length
                have hc1 : 0 < (b :: L).count b := List.count_pos_iff.2 (by simp)
                have hll : (b :: L).length = L.length + 1 := rfl
                have hcw := IntWalk.wrap64_in (((b :: L).count b : Int) - 1) (by omega)
                have HM := Lib.hid (And.intro (show (b :: L)[0]? = some b from rfl) (And.intro (show (b :: L).length ≤ 4096 by omega) (cnt_less (b :: L) b 0 _ rfl rfl)))
                have HLn := Lib.hid hll
                clear hll
                generalize (b :: L).count b = C at *
                go_wp2_with (first
                  | (go_at_call 14; (with_reducible refine (len_c w p T (b :: L) (b :: L) (L.length + 1) _ HN.out HLn.out).mono ?_); rintro e6 w6 ⟨rfl, rfl⟩)
                  | (go_at_call 13; (with_reducible refine (take_c w p T (b :: L) (b :: L) 0 0 b _ HN.out rfl HM.out.1 HM.out.2.1).mono ?_); rintro e5 w5 ⟨bo, bc, rfl, hn5, ho5, hT5⟩; obtain ⟨zq, oq, rfl, hq⟩ := own_byte (ho5.keep ((Chg.refl (fun _ => False) w5).alloc (.cells #[.int .i64 0, .int .i64 0, .slice bo 1 bc] 29)) (fun _ _ h => h)); obtain ⟨d0, d1⟩ := (hn5.alloc (.cells #[.int .i64 0, .int .i64 0, .slice (some ⟨zq, oq, none⟩) 1 bc] 29)).cell b; have H5 := Lib.hid hn5; clear hn5 ho5))
                go_roundg L.length
                case measure => have := HLn.out; omega
                case rel =>
                  have hLn := HLn.out
                  refine ⟨L, rfl, ?_, by omega⟩
                  exact (H5.out.alloc _).set b _ (cnt_less (b :: L) b 0 _ rfl (by rw [IntWalk.wrap64_in _ (by have := List.count_le_length (a := b) (l := L); omega)]; simp))
        · go_wp2
          obtain ⟨Gx, rfl⟩ : ∃ Gx, Gx = gk := ⟨_, rfl⟩
          obtain ⟨wt, rfl⟩ : ∃ wt, wt = wr := ⟨_, rfl⟩
          obtain ⟨Lx, rfl⟩ : ∃ Lx, Lx = L := ⟨_, rfl⟩
          go_loopg [15] Lx.length (fun g v wx => ∃ L : List UInt8, g = L.length ∧ NetC w wx p T L L ∧ L.length ≤ 301)
          case atStart => exact ⟨Lx, rfl, HN.out, by omega⟩
          case round =>
            obtain ⟨L, hg, hnet, hL⟩ := hrel
            clear HN
            have HN := Lib.hid hnet
            clear hnet
            cases L with
            | nil =>
              clear hg
              have HL0 := Lib.hid (show ([] : List UInt8).length = 0 from rfl)
              go_wp2_with (first
                | (go_at_call 14; (with_reducible refine (len_c w p T [] [] 0 _ HN.out HL0.out).mono ?_); rintro e6 w6 ⟨rfl, rfl⟩)
                | (refine wpList_load_row rfl (.tmp 6) rfl rfl HN.out.cells Try.underlying37 cnt_info ?_))
              go_ret
              exact ⟨rfl, HN.out.below⟩
            | cons b L =>
              subst hg
              have hbt := b.toNat_lt
              have hbi : (b.toNat : Int) < 256 := by omega
              have hcl : (b :: L).count b ≤ (b :: L).length := List.count_le_length
              have hc1 : 0 < (b :: L).count b := List.count_pos_iff.2 (by simp)
              have hll : (b :: L).length = L.length + 1 := rfl
              have hcw := IntWalk.wrap64_in (((b :: L).count b : Int) - 1) (by omega)
              have HM := Lib.hid (And.intro (show (b :: L)[0]? = some b from rfl) (And.intro (show (b :: L).length ≤ 4096 by omega) (cnt_less (b :: L) b 0 _ rfl rfl)))
              have HLn := Lib.hid hll
              clear hll
              generalize (b :: L).count b = C at *
              go_wp2_with (first
                | (go_at_call 14; (with_reducible refine (len_c w p T (b :: L) (b :: L) (L.length + 1) _ HN.out HLn.out).mono ?_); rintro e6 w6 ⟨rfl, rfl⟩)
                | (go_at_call 13; (with_reducible refine (take_c w p T (b :: L) (b :: L) 0 0 b _ HN.out rfl HM.out.1 HM.out.2.1).mono ?_); rintro e5 w5 ⟨bo, bc, rfl, hn5, ho5, hT5⟩; obtain ⟨zq, oq, rfl, hq⟩ := own_byte (ho5.keep ((Chg.refl (fun _ => False) w5).alloc (.cells #[.int .i64 0, .int .i64 0, .slice bo 1 bc] 29)) (fun _ _ h => h)); obtain ⟨d0, d1⟩ := (hn5.alloc (.cells #[.int .i64 0, .int .i64 0, .slice (some ⟨zq, oq, none⟩) 1 bc] 29)).cell b; have H5 := Lib.hid hn5; clear hn5 ho5))
              go_roundg L.length
              case measure => have := HLn.out; omega
              case rel =>
                have hLn := HLn.out
                refine ⟨L, rfl, ?_, by omega⟩
                exact (H5.out.alloc _).set b _ (cnt_less (b :: L) b 0 _ rfl (by rw [IntWalk.wrap64_in _ (by have := List.count_le_length (a := b) (l := L); omega)]; simp))
theorem netAny_in (W : World) (base : Nat) (v0 v1 : Value) (k0 : Value.okWide Try.prog W .any base 22 v0) (k1 : Value.okWide Try.prog W .any base 36 v1) (r0 : Rd Try.prog W 22 v0.cells.toList) (r1 : Rd Try.prog W 36 v1.cells.toList) :
    Calls Try.prog 4 #[v0, v1] W fun e w' => e = .returned (.bool true) ∧ Below W.heap.size W w' := by
  obtain ⟨ao, bs, c, rfl, h1, h2, h3⟩ := in_bytesC Try.underlying22 Try.underlying5 (by kernel_rfl) k0 r0
  obtain ⟨co, zs, e, rfl, hc, hl, hm⟩ := in_slice Try.underlying36 (size := 1) (by kernel_rfl) (by decide) (fun (x : Nat) cs => cs = [.int .u16 (x : Int)] ∧ x < 65536) (fun es h => h.u16 Try.underlying38) k1 r1
  exact netAny_any ao _ c bs co _ e zs W rfl h1 (Nat.le_trans h2 h3) rfl hc (Nat.le_trans hl hm)
end Go.Proofs.Ytgbfpllaianeaaa
