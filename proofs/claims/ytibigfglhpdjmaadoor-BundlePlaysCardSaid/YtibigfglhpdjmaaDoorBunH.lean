/-
  BundleHashes, walked.
-/
import Derived.Test.YtibigfglhpdjmaaDoorBunG
import Derived.Deep.CutBlock
namespace Go.Proofs.YtibigfglhpdjmaaDoor
open Go Go.RowKit

theorem act_of {w : World} {po : Option Addr} {ps : List ActT} {k : Nat} (h : RowOf w po 3 ActIs ps) (hk : k < ps.length) : ∃ (b off : Nat) (t : ActT), po = some ⟨b, off, none⟩ ∧ (-9223372036854775808 ≤ t.at_ ∧ t.at_ ≤ 9223372036854775807) ∧
    ∀ w', Below w.heap.size w w' → w'.cell? ⟨b, off + k * 3, none⟩ = some (.bool t.join) ∧ w'.cell? ⟨b, off + k * 3 + 1, none⟩ = some (.int .i64 t.at_) ∧ w'.cell? ⟨b, off + k * 3 + 2, none⟩ = some (.bool t.raw) := by
  obtain ⟨zb, zoff, rfl, hz1⟩ := h (by omega)
  obtain ⟨es, hes, ⟨rfl, hx1⟩, hcell⟩ := hz1 k hk
  refine ⟨zb, zoff, ps[k], rfl, hx1, fun w' hb => ?_⟩
  have hC := Chg.of_below hb (fun _ => False)
  have c0 := hC.cell (hcell 0 _ rfl) (fun h => h)
  have c1 := hC.cell (hcell 1 _ rfl) (fun h => h)
  have c2 := hC.cell (hcell 2 _ rfl) (fun h => h)
  simp only [Nat.add_zero] at c0
  exact ⟨c0, c1, c2⟩
/-- Where the bundle at place k ends. -/
def nxt (l : List Nat) (k : Nat) : Nat := l[k + 1]?.getD 65536
theorem ofp_at {l : List Nat} {z a b : Nat} (h : OfP l z a b) : ∃ q, l[q]? = some a ∧ b = nxt l q ∧ At l q z := by
  obtain ⟨q, h1, h2, h3, h4⟩ := h
  refine ⟨q, h1, ?_, (List.getElem?_eq_some_iff.1 h1).1, h3, h4⟩
  rcases h2 with h2 | ⟨h2, rfl⟩
  · rw [nxt, h2]; rfl
  · rw [nxt, List.getElem?_eq_none (by omega)]; rfl
-- BEGIN1
set_option maxHeartbeats 2000000 in
set_option maxRecDepth 100000 in
theorem bundleHashes_any (s : ByteArray) (po : Option Addr) (m c : Nat) (ps : List ActT) (W : World) (hT : Tab W) (hpl : ps.length = m) (hp : RowOf W po 3 ActIs ps) (hpm : m ≤ maxLen) :
    Calls Tryd.prog 4 #[.string s, .slice po m c] W fun e w' => e = .returned (.bool true) ∧ Below W.heap.size W w' := by
  have hm63 : m ≤ 9223372036854775807 := hpm
  have HP := Lib.hid (And.intro hp hpl)
  have HT := Lib.hid hT
  clear hp hpl hT hpm
  by_cases hs : 1000 < s.size
  · have hsI : (1000 : Int) < (s.size : Int) := by omega
    go_enter Tryd.func4, Tryd.ntmps4
    go_wp2_with fail
    (with_reducible refine (awake _ HT.out).mono ?_)
    rintro e1 w1 ⟨rfl, hb1⟩
    have H1 := Lib.hid hb1
    clear hb1
    go_wp2
    go_ret
    exact ⟨rfl, H1.out⟩
  · have hsI : ¬ (1000 : Int) < (s.size : Int) := by omega
    have hcv := fun w : World => Lib.run_convert_string_bytes (P := Tryd.prog) w 9 30 5 s Tryd.underlying9 Tryd.underlying30 Tryd.underlying5
    have hl : s.data.toList.length = s.size := by rw [Array.length_toList]; rfl
    have hH := hashOf_lt s
    have hhv : ((crc s.data.toList).toNat : Int) / 65536 = (hashOf s : Int) := by unfold hashOf; omega
    have HH := Lib.hid (fun w => hash_any s w (by omega))
    have HS := Lib.hid (fun w c => refsum_any' (some ⟨w.heap.size, 0, none⟩) s.size c s.data.toList (Lib.bytesWorld w 5 s) hl (by omega) (bw_bts w 5 s))
    have HBW := Lib.hid (fun w : World => bw_below w 5 s)
    have hHw := IntWalk.i64_in (hashOf s : Int) (by omega)
    generalize hashOf s = h at *
    clear hl
    go_enter Tryd.func4, Tryd.ntmps4
    go_wp2_with fail
    (with_reducible refine (awake _ HT.out).mono ?_)
    rintro e1 w1 ⟨rfl, hb1⟩
    have H1 := Lib.hid hb1
    clear hb1
    go_wp2_with fail
    (with_reducible refine (HH.out _).mono ?_)
    rintro e2 w2 ⟨rfl, hb2⟩
    have H2 := Lib.hid (H1.out.trans (hb2.mono H1.out.size))
    clear hb2
    go_wp2_with fail
    (with_reducible refine (HS.out _ _).mono ?_)
    rintro e3 w3 ⟨rfl, rfl⟩
    have H3 := Lib.hid (H2.out.trans ((HBW.out w2).mono H2.out.size))
    go_wp2_with fail
    (with_reducible refine (new_in W _ H3.out).mono ?_)
    rintro e4 w4 ⟨p, F, rfl, _, hn4⟩
    have H4 := Lib.hid hn4
    clear hn4
    go_wp2_with fail
    go_loopg [34] m (fun g v wr => ∃ (k : Nat) (l F : List Nat), g + k = m ∧ v = .int .i64 k ∧ MapIn W wr p l F)
    case atStart => exact ⟨0, _, _, rfl, rfl, H4.out⟩
    case round =>
      obtain ⟨k, l, F, hk, rfl, hmi⟩ := hrel
      have HM := Lib.hid hmi
      clear hmi
      by_cases hkm : k < m
      · obtain ⟨b, off, t, rfl, ⟨ht0, ht1⟩, hcs⟩ := act_of HP.out.1 (k := k) (by rw [HP.out.2]; exact hkm)
        obtain ⟨c0, c1, c2⟩ := hcs wr HM.out.below
        have hkI : (k : Int) < (m : Int) := by omega
        have hk0 : (0 : Int) ≤ (k : Int) := by omega
        have hal := HM.out.alloc (.cells #[.bool t.join, .int .i64 t.at_, .bool t.raw] 35)
        obtain ⟨a0, a1, a2, _⟩ := cells3 (heap_top wr (.cells #[.bool t.join, .int .i64 t.at_, .bool t.raw] 35))
        have HA := Lib.hid hal
        clear hal hcs
        by_cases h60 : k < 60
        · have h60I : (k : Int) < 60 := by omega
          go_wp2_with fail
          (with_reducible refine (few_any t _ ht0 ht1).mono ?_)
          rintro e5 w5 ⟨rfl, hb5⟩
          have H5 := Lib.hid (HA.out.stays hb5)
          clear hb5
          go_wp2_with fail
          (with_reducible refine (split_in W _ p l F _ H5.out).mono ?_)
          rintro e6 w6 ⟨cc, l', F', rfl, _, h6, _, _⟩
          have H6 := Lib.hid h6
          clear h6
          go_wp2
          go_roundg (gk - 1)
          case measure => omega
          case rel => exact ⟨k + 1, l', F', by omega, by go_num, H6.out⟩
        · have h60I : ¬ (k : Int) < 60 := by omega
          go_wp2
          go_roundg (gk - 1)
          case measure => omega
          case rel => exact ⟨k + 1, l, F, by omega, by go_num, HA.out⟩
      · have hkI : ¬ (k : Int) < (m : Int) := by omega
        go_wp2_with fail
        (with_reducible refine (of_in W _ p l F h HM.out hH).mono ?_)
        rintro e5 w5 ⟨a, b, rfl, hb5, hof⟩
        obtain ⟨q, hqa, hbn, hat⟩ := ofp_at hof
        have H5 := Lib.hid (HM.out.stays hb5)
        have HQ := Lib.hid (And.intro hqa (And.intro hbn hat))
        clear hb5 hof hqa hbn hat
        go_wp2_with fail
        (with_reducible refine (all_any p l F _ H5.out.map (by have := H5.out.ok.len; omega)).mono ?_)
        rintro e6 w6 ⟨xo, xc, rfl, hb6, ho6, _⟩
        have H6 := Lib.hid (And.intro (H5.out.below.trans (hb6.mono H5.out.below.size)) (And.intro ho6.row H5.out.ok))
        clear hb6 ho6
        have hlen16 : l.length ≤ 16 := H6.out.2.2.len
        obtain ⟨N, hN⟩ : ∃ N, N = l.length := ⟨_, rfl⟩
        rw [← hN] at hlen16 ⊢
        have HN := Lib.hid hN
        clear hN
        go_wp2_with fail
        go_loopg [11, 13, 57] N (fun g ok n i wr => wr = w6 ∧ ∃ k : Nat, g + k = N ∧ ok = .bool true ∧ n = .int .i64 (if q < k then 1 else 0) ∧ i = .int .i64 k)
        case atStart => exact ⟨rfl, 0, by omega, rfl, rfl, rfl⟩
        case round =>
          obtain ⟨rfl, k, hk, rfl, rfl, rfl⟩ := hrel
          have hN := HN.out
          by_cases hkN : k < N
          · obtain ⟨x, hx⟩ : ∃ x, l[k]? = some x := ⟨_, List.getElem?_eq_getElem (by omega)⟩
            obtain ⟨xb, xoff, rfl, hcx⟩ := row_ci H6.out.2.1 hx
            have hkI : (k : Int) < (N : Int) := by omega
            have hk0 : (0 : Int) ≤ (k : Int) := by omega
            have hk1 := IntWalk.i64_in ((k : Int) + 1) (by omega)
            by_cases hk1N : k + 1 < N
            · obtain ⟨y, hy⟩ : ∃ y, l[k + 1]? = some y := ⟨_, List.getElem?_eq_getElem (by omega)⟩
              obtain ⟨_, _, e, hcy⟩ := row_ci H6.out.2.1 hy
              cases e
              have hk1I : (k : Int) + 1 < (N : Int) := by omega
              have hk10 : (0 : Int) ≤ (k : Int) + 1 := by omega
              have hny : nxt l k = y := by rw [nxt, hy]; rfl
              rcases Nat.lt_trichotomy k q with hkq | hkq | hkq
              · have hxh : (x : Int) ≤ (h : Int) := by have := HQ.out.2.2.lo k x (by omega) hx; omega
                have hyh : ¬ (h : Int) < (y : Int) := by have := HQ.out.2.2.lo (k + 1) y (by omega) hy; omega
                rw [if_neg (by omega)]
                clear hx hy hny hN
                as_aux_lemma =>
                  go_wp2
                  go_roundg (gk - 1)
                  case measure => omega
                  case rel => exact ⟨rfl, k + 1, by omega, rfl, by rw [if_neg (by omega)], by go_num⟩
              · subst hkq
                obtain rfl : x = a := by have := HQ.out.1.symm.trans hx; cases this; rfl
                obtain rfl : b = y := HQ.out.2.1.trans hny
                have hxh : (x : Int) ≤ (h : Int) := by have := HQ.out.2.2.lo k x (by omega) hx; omega
                have hyh : (h : Int) < (b : Int) := by have := HQ.out.2.2.hi (k + 1) b (by omega) hy; omega
                rw [if_neg (by omega)]
                clear hx hy hny hN
                as_aux_lemma =>
                  go_wp2
                  go_roundg (gk - 1)
                  case measure => omega
                  case rel => exact ⟨rfl, k + 1, by omega, rfl, by rw [if_pos (by omega)], by go_num⟩
              · have hxh : ¬ (x : Int) ≤ (h : Int) := by have := HQ.out.2.2.hi k x (by omega) hx; omega
                rw [if_pos (by omega)]
                clear hx hy hny hN
                as_aux_lemma =>
                  go_wp2
                  go_roundg (gk - 1)
                  case measure => omega
                  case rel => exact ⟨rfl, k + 1, by omega, rfl, by rw [if_pos (by omega)], by go_num⟩
            · have hk1I : ¬ (k : Int) + 1 < (N : Int) := by omega
              have hny : nxt l k = 65536 := by rw [nxt, List.getElem?_eq_none (by omega)]; rfl
              have hq : q < N := by rw [hN]; exact HQ.out.2.2.lt
              rcases Nat.lt_or_ge q k with hkq | hkq
              · have hxh : ¬ (x : Int) ≤ (h : Int) := by have := HQ.out.2.2.hi k x (by omega) hx; omega
                rw [if_pos (by omega)]
                clear hx hny hN
                as_aux_lemma =>
                  go_wp2
                  go_roundg (gk - 1)
                  case measure => omega
                  case rel => exact ⟨rfl, k + 1, by omega, rfl, by rw [if_pos (by omega)], by go_num⟩
              · obtain rfl : k = q := by omega
                obtain rfl : x = a := by have := HQ.out.1.symm.trans hx; cases this; rfl
                obtain rfl : b = 65536 := HQ.out.2.1.trans hny
                have hxh : (x : Int) ≤ (h : Int) := by have := HQ.out.2.2.lo k x (by omega) hx; omega
                have hyh : (h : Int) < 65536 := by omega
                rw [if_neg (by omega)]
                clear hx hny hN
                as_aux_lemma =>
                  go_wp2
                  go_roundg (gk - 1)
                  case measure => omega
                  case rel => exact ⟨rfl, k + 1, by omega, rfl, by rw [if_pos (by omega)], by go_num⟩
          · have hkI : ¬ (k : Int) < (N : Int) := by omega
            have hq : q < N := by rw [hN]; exact HQ.out.2.2.lt
            rw [if_pos (by omega)]
            have hNI : (N : Int) ≤ 16 := by omega
            clear hN
            as_aux_lemma =>
              go_wp2
              go_ret
              exact ⟨rfl, H6.out.1⟩
-- END1
theorem bundleHashes_in (W : World) (base : Nat) (hT : Tab W) (v0 v1 : Value) (k0 : Value.okWide Tryd.prog W .any base 9 v0) (k1 : Value.okWide Tryd.prog W .any base 26 v1) (r0 : Rd Tryd.prog W 9 v0.cells.toList) (r1 : Rd Tryd.prog W 26 v1.cells.toList) :
    Calls Tryd.prog 4 #[v0, v1] W fun e w' => e = .returned (.bool true) ∧ Below W.heap.size W w' := by
  obtain ⟨s, rfl⟩ := Go.WideShapes.okWide_string Tryd.underlying9 k0
  obtain ⟨po, ps, d, rfl, h4, h5, h6⟩ := in_slice Tryd.underlying26 (size := 3) (by kernel_rfl) (by decide) ActIs (fun es h => act_rd h) k1 r1
  exact bundleHashes_any s po _ d ps W hT rfl h4 (Nat.le_trans h5 h6)
end Go.Proofs.YtibigfglhpdjmaaDoor
