/-
  THE LAW NetPlays OF LAYER 20, WALKED.
-/
import Derived.Test.YtgbfpllaianeaaaNetP
namespace Go.Proofs.Ytgbfpllaianeaaa
open Go Go.RowKit

set_option maxHeartbeats 4000000 in
set_option maxRecDepth 100000 in
theorem netPlays_any (co : Option Addr) (N c : Nat) (acts : List ActOf) (w : World) (hl : acts.length = N) (hc : RowOf w co 6 (ActIs w) acts) (hN : N ≤ maxLen) :
    Calls Try.prog 5 #[.slice co N c] w fun e w' => e = .returned (.bool true) ∧ Below w.heap.size w w' := by
  have HH := Lib.hid (And.intro hl hc)
  clear hl hc
  unfold maxLen at hN
  go_enter Try.func5, Try.ntmps5
  go_wp2_with (first
    | (go_at_call 8; (with_reducible refine (awake _).mono ?_); rintro e1 w1 ⟨rfl, hw⟩; have HW := Lib.hid hw; clear hw)
    | (go_at_call 9; (with_reducible refine (new_in w _ HW.out).mono ?_); rintro e1 w2 ⟨p, rfl, _, hn1⟩; have H1 := Lib.hid hn1; clear hn1))
  go_loopg [4, 22] N (fun g v i wr => ∃ (k : Nat), g + k = N ∧ i = .int .i64 k ∧ HeadIs w wr p k v)
  case atStart => exact ⟨0, by omega, rfl, [], none, 0, 0, [], [p], rfl, ⟨H1.out, Own.nil' _ _, by simp, by simp⟩, rfl, by omega, by simp⟩
  case round =>
    obtain ⟨k, hgk, rfl, ms, lo, n, cap, es, F, rfl, ht, hm, hnk, hsh⟩ := hrel
    obtain ⟨K0, rfl⟩ : ∃ K0, K0 = gk := ⟨_, rfl⟩
    have HP := Lib.hid (And.intro ht (And.intro hm hsh))
    clear ht hm hsh
    by_cases hlt : k < N
    · obtain ⟨zb, zoff, rfl, hz1⟩ := HH.out.2 (by rw [HH.out.1]; omega)
      have hkl : k < acts.length := by rw [HH.out.1]; exact hlt
      obtain ⟨xs, hxs, ⟨⟨ao, ac, rfl, hab⟩, _, _, _, hbl⟩, hcell⟩ := hz1 k hkl
      have hbw := HP.out.1.net.below
      have c0 := (Chg.of_below hbw (fun _ => False)).cell (hcell 0 _ rfl) (fun h => h)
      have c1 := (Chg.of_below hbw (fun _ => False)).cell (hcell 1 _ rfl) (fun h => h)
      have c2 := (Chg.of_below hbw (fun _ => False)).cell (hcell 2 _ rfl) (fun h => h)
      have c3 := (Chg.of_below hbw (fun _ => False)).cell (hcell 3 _ rfl) (fun h => h)
      have c4 := (Chg.of_below hbw (fun _ => False)).cell (hcell 4 _ rfl) (fun h => h)
      have c5 := (Chg.of_below hbw (fun _ => False)).cell (hcell 5 _ rfl) (fun h => h)
      simp only [Nat.add_zero] at c0
      have HAB := Lib.hid hab
      generalize acts[k] = t at *
      obtain ⟨kind, f0, d0, ys, i0, raw⟩ := t
      dsimp only at *
      unfold maxLen at hbl
      clear hcell hz1 hxs hkl hab hbw
      by_cases h100 : 100 < k
      · -- BEGIN1
        as_aux_lemma =>
          go_wp2
          go_ret
          exact ⟨rfl, HP.out.1.net.below.alloc HP.out.1.net.below.size _⟩
        -- END1
      · by_cases h5000 : 5000 < ys.length
        · -- BEGIN2
          as_aux_lemma =>
            go_wp2
            go_ret
            exact ⟨rfl, HP.out.1.net.below.alloc HP.out.1.net.below.size _⟩
          -- END2
        · go_upto_if 38 with fail
          go_cut [] (fun wx => ∃ f d i : Int, wx.heap[wr.heap.size]? = some (.cells #[.int .u8 (kind.toNat : Int), .int .i64 f, .int .i64 d, .slice ao ys.length ac, .int .i64 i, .bool raw] 43 (0, 0)) ∧ Two w wx p ms lo n cap es F)
          case first =>
            -- BEGIN3
            as_aux_lemma =>
              cases raw
              · go_wp2
                go_meet
                exact ⟨_, _, _, heap_top _ _, HP.out.1.alloc _⟩
              · go_wp2
                go_meet
                exact ⟨_, _, _, heap_top _ _, HP.out.1.alloc _⟩
            -- END3
          case rest =>
            obtain ⟨f, d, i, hT, hP⟩ := hcut
            have HTF := Lib.hid (show ∀ j ∈ F, j ≠ wr.heap.size from fun j hj => Nat.ne_of_lt (HP.out.1.net.net.lt j hj))
            have HTL := Lib.hid (show ∀ a, lo = some a → a.block ≠ wr.heap.size from fun a ha => Nat.ne_of_lt (HP.out.1.own.at_ a ha).2.1)
            have HT0 := HP.out.1.net.below.size
            generalize wr.heap.size = T at *
            have k0 := heap_cell hT 0
            obtain ⟨k1, k2, k3, k4⟩ := act_cells hT
            simp at k0
            have hTl := heap_lt hT
            have HX := Lib.hid (And.intro hT hP)
            have HM := Lib.hid HP.out.2
            clear hT hP HP c0 c1 c2 c3 c4 c5
            obtain ⟨Q, hQ⟩ : ∃ Q : Bool, (Q = true ↔ 0 ≤ i ∧ i < n) := ⟨decide (0 ≤ i ∧ i < n), by simp⟩
            have hn100 : n ≤ 100 := by omega
            go_upto_region 11 with fail
            go_cut [7] (fun v wx => v = .bool Q ∧ wx = wc)
            case first =>
              -- BEGIN4
              as_aux_lemma =>
                cases Q
                · have hQ' : i < 0 ∨ (n : Int) ≤ i := by simp at hQ; omega
                  clear hQ
                  by_cases hi0 : 0 ≤ i
                  · have hd : decide (i < (n : Int)) = false := by simp; omega
                    go_wp2
                    go_meet
                    exact ⟨rfl, rfl⟩
                  · have hi1 : i < 0 := by omega
                    clear hQ' hi0
                    go_wp2
                    go_meet
                    exact ⟨rfl, rfl⟩
                · have hq := hQ.1 rfl
                  obtain ⟨hq1, hq2⟩ := hq
                  clear hQ
                  go_wp2
                  go_meet
                  exact ⟨rfl, rfl⟩
              -- END4
            case rest =>
            obtain ⟨rfl, hw1⟩ := hcut
            subst hw1
            have HQ := Lib.hid hQ
            clear hQ
            go_upto_block 2 with fail
            go_cut [4] (fun v wx => HeadIs w wx p (k + 1) v)
            case first =>
              have hkd : ((kind.toNat : Int) % 6 = 0 ∨ (kind.toNat : Int) % 6 = 1 ∨ (kind.toNat : Int) % 6 = 2) ∨ (kind.toNat : Int) % 6 = 3 ∨ (kind.toNat : Int) % 6 = 4 ∨ (kind.toNat : Int) % 6 = 5 := by omega
              generalize (kind.toNat : Int) % 6 = kd at *
              rcases hkd with hkd | rfl | rfl | rfl
              · have e3 : (kd == 3) = false := by rcases hkd with rfl | rfl | rfl <;> rfl
                have e4 : (kd == 4) = false := by rcases hkd with rfl | rfl | rfl <;> rfl
                have e5 : (kd == 5) = false := by rcases hkd with rfl | rfl | rfl <;> rfl
                clear hkd
                have HSP := Lib.hid (fun w4 so sc (ho : Own w4 1 so ys.length sc (ys.map cb)) hch hx2 => Sent.pre (f := f) (d := d) (ao := ao) (L := ys.length) (ac := ac) (E := .cells #[] 5) HX.out.2 HX.out.1 (fun hj => HTF.out _ hj rfl) ho hch hx2)
                have hbody := HAB.out.below ((HX.out.2.alloc (.cells #[.int .i64 f, .int .i64 d, .slice ao ys.length ac] 29)).alloc (.cells #[] 5)).net.below
                have HBO := Lib.hid hbody
                clear hbody
                by_cases hL : ys.length ≤ 4096
                · -- BEGIN5
                  as_aux_lemma =>
                    have HML := Lib.hid (show ms.length < 4096 by rw [← HM.out.1, List.length_map, HX.out.2.len]; omega)
                    go_wp2_with (first
                      | (at_builtin; refine wpList_append' rfl (.tmp 76) (.tmp 79) el_u8 rfl rfl rfl (own_empty _ _ _) (by simp) HBO.out (one_cb ys) (by unfold maxLen; omega) (by omega) ?_; intro so sc w4 hx hch _ hx2; simp only [Nat.zero_add, List.nil_append] at hx; obtain ⟨hS, hM4⟩ := HSP.out w4 so sc hx hch hx2; obtain ⟨a0, a1, a2, a3⟩ := cells3 hM4; have HS := Lib.hid hS; clear hx hch hx2 hS hM4)
                      | (go_at_call 10; (with_reducible refine (send_any p ms F f d so ys.length sc ys _ hL rfl HS.out.own.bts HS.out.two.net.net HML.out).mono ?_); rintro e6 w6 ⟨rfl, F6, g1, g2, g3⟩; have hS6 := HS.out.wrote g1 g2 g3; obtain ⟨m0, m1, m2, m3⟩ := cells3 hS6.m; have HS6 := Lib.hid hS6; clear g1 g2 g3 hS6))
                    go_loopg [88] ys.length (fun g v wx => ∃ (j : Nat) (l : List UInt8), g + j = ys.length ∧ v = .int .i64 j ∧ l.length = ys.length ∧ Sent w wx p (ms ++ [⟨f, d, ys⟩]) lo n cap es F6 T _ wc.heap.size f d so ys.length sc l)
                    case atStart => exact ⟨0, ys, by omega, rfl, rfl, HS6.out⟩
                    case round =>
                      obtain ⟨j, l, hj, rfl, hll, hS⟩ := hrel
                      clear HS6 m0 m1 m2 m3
                      obtain ⟨m0, m1, m2, m3⟩ := cells3 hS.m
                      obtain ⟨q1, q2, q3, q4⟩ := act_cells hS.t
                      have HR := Lib.hid (And.intro hll hS)
                      clear hll hS
                      by_cases hjn : j < ys.length
                      · obtain ⟨sb, soff, rfl, _⟩ := HR.out.2.own.row (by intro q; have := congrArg List.length q; rw [List.length_map, HR.out.1, List.length_nil] at this; omega)
                        obtain ⟨x, ex, d1, d2⟩ := own_at HR.out.2.own (k := j) (by rw [HR.out.1]; exact hjn)
                        clear ex
                        go_wp2
                        go_roundg (gk - 1)
                        case measure => omega
                        case rel =>
                          refine ⟨j + 1, l.set j (x ^^^ 255), by omega, by go_num, by rw [List.length_set]; exact HR.out.1, ?_⟩
                          rw [show (255 : Int) = (((255 : UInt8).toNat : Nat) : Int) from rfl, xor8]
                          exact HR.out.2.set j (x ^^^ 255) hjn
                      · have hLd : decide ((ys.length : Int) ≤ 4096) = true := by simp; omega
                        have HOW := Lib.hid (((HR.out.2.two.alloc (.cells #[.int .i64 f, .int .i64 d, .slice ao ys.length ac] 29)).own))
                        go_wp2_with (at_builtin; refine wpList_append' rfl (.tmp 116) (.tmp 119) el_msg rfl rfl rfl HOW.out (m := 1) (news := (Ent.mk ⟨f, d, ys⟩ ao ac).cells) rfl (Row.alloc _ _ _ _) (msg_one ⟨⟨f, d, ys⟩, ao, ac⟩) (by unfold maxLen; omega) (by omega) ?_; intro xo xc w8 hx hch _ hx2; have HZ := Lib.hid (app_one (e := ⟨⟨f, d, ys⟩, ao, ac⟩) HR.out.2.two HAB.out hx hch hx2); clear hx hch hx2)
                        go_meet
                        exact HeadIs.snoc (e := ⟨⟨f, d, ys⟩, ao, ac⟩) HZ.out HM.out.1 hnk HM.out.2 hL
                  -- END5
                · -- BEGIN6
                  as_aux_lemma =>
                    have hL' : 4096 < ys.length := by omega
                    go_wp2_with (first
                      | (at_builtin; refine wpList_append' rfl (.tmp 76) (.tmp 79) el_u8 rfl rfl rfl (own_empty _ _ _) (by simp) HBO.out (one_cb ys) (by unfold maxLen; omega) (by omega) ?_; intro so sc w4 hx hch _ hx2; simp only [Nat.zero_add, List.nil_append] at hx; obtain ⟨hS, hM4⟩ := HSP.out w4 so sc hx hch hx2; obtain ⟨a0, a1, a2, a3⟩ := cells3 hM4; have HS := Lib.hid hS; clear hx hch hx2 hS hM4)
                      | (go_at_call 10; (with_reducible refine (send_long p f d so ys.length sc _ hL').mono ?_); rintro e6 w6 ⟨rfl, g1⟩; have hS6 := HS.out.stays g1; obtain ⟨m0, m1, m2, m3⟩ := cells3 hS6.m; have HS6 := Lib.hid hS6; clear g1 hS6))
                    go_loopg [88] ys.length (fun g v wx => ∃ (j : Nat) (l : List UInt8), g + j = ys.length ∧ v = .int .i64 j ∧ l.length = ys.length ∧ Sent w wx p ms lo n cap es F T _ wc.heap.size f d so ys.length sc l)
                    case atStart => exact ⟨0, ys, by omega, rfl, rfl, HS6.out⟩
                    case round =>
                      obtain ⟨j, l, hj, rfl, hll, hS⟩ := hrel
                      clear HS6 m0 m1 m2 m3
                      obtain ⟨m0, m1, m2, m3⟩ := cells3 hS.m
                      have HR := Lib.hid (And.intro hll hS)
                      clear hll hS
                      by_cases hjn : j < ys.length
                      · obtain ⟨sb, soff, rfl, _⟩ := HR.out.2.own.row (by intro q; have := congrArg List.length q; rw [List.length_map, HR.out.1, List.length_nil] at this; omega)
                        obtain ⟨x, ex, d1, d2⟩ := own_at HR.out.2.own (k := j) (by rw [HR.out.1]; exact hjn)
                        clear ex
                        go_wp2
                        go_roundg (gk - 1)
                        case measure => omega
                        case rel =>
                          refine ⟨j + 1, l.set j (x ^^^ 255), by omega, by go_num, by rw [List.length_set]; exact HR.out.1, ?_⟩
                          rw [show (255 : Int) = (((255 : UInt8).toNat : Nat) : Int) from rfl, xor8]
                          exact HR.out.2.set j (x ^^^ 255) hjn
                      · have hLd : decide ((ys.length : Int) ≤ 4096) = false := by simp; omega
                        go_wp2
                        go_meet
                        exact ⟨ms, lo, n, cap, es, F, rfl, HR.out.2.two, HM.out.1, by omega, HM.out.2⟩
                  -- END6
              · cases Q
                · -- BEGIN8
                  as_aux_lemma =>
                    have HO := Lib.hid (show i < 0 ∨ (ms.length : Int) ≤ i by have h := HQ.out; simp at h; rw [← HM.out.1, List.length_map, HX.out.2.len]; omega)
                    go_wp2_with fail
                    (with_reducible refine (take_out p ms F i _ HX.out.2.net.net HO.out).mono ?_)
                    rintro e5 w5 ⟨rfl, g1⟩
                    have HP5 := Lib.hid (HX.out.2.stays g1)
                    clear g1
                    have HA := Lib.hid (rows_two w5 (.cells #[.int .i64 0, .int .i64 0, .slice none 0 0] 29) ⟨⟨0, 0, []⟩, none, 0⟩ ⟨⟨0, 0, []⟩, none, 0⟩ (Bts.nil _ _) (Bts.nil _ _))
                    have hA := HA.out
                    dsimp only [List.length_nil] at hA
                    have HA := Lib.hid hA
                    clear hA
                    go_wp2_with fail
                    (with_reducible refine (same_msgs (some ⟨w5.heap.size + 1, 0, none⟩) (some ⟨w5.heap.size + 1 + 1, 0, none⟩) 1 1 1 _ _ _ HA.out.1 HA.out.2 rfl rfl rfl (by decide)).mono ?_)
                    rintro e6 w6 ⟨rfl, g2⟩
                    have HP6 := Lib.hid ((((HP5.out.alloc _).alloc _).alloc _).stays g2)
                    clear g2
                    go_wp2
                    go_meet
                    exact ⟨ms, lo, n, cap, es, F, rfl, HP6.out, HM.out.1, by omega, HM.out.2⟩
                  -- END8
                · -- BEGIN7
                  as_aux_lemma =>
                    obtain ⟨hi0, hin⟩ := HQ.out.1 rfl
                    obtain ⟨j, rfl⟩ : ∃ j : Nat, i = (j : Int) := ⟨i.toNat, by omega⟩
                    have hjn : j < n := by omega
                    obtain ⟨⟨⟨xf, xd, xb⟩, xo, xc⟩, hx⟩ : ∃ x, es[j]? = some x := ⟨_, List.getElem?_eq_getElem (by rw [HX.out.2.len]; exact hjn)⟩
                    have hmx : ms[j]? = some ⟨xf, xd, xb⟩ := by rw [← HM.out.1, List.getElem?_map, hx]; rfl
                    have HJ := Lib.hid (And.intro hmx (And.intro hx (And.intro (HX.out.2.bod _ (List.mem_of_getElem? hx)) (show ms.length ≤ 4096 by rw [← HM.out.1, List.length_map, HX.out.2.len]; omega))))
                    clear hmx hx
                    go_wp2_with fail
                    (with_reducible refine (take_any p ms F (j : Int) j ⟨xf, xd, xb⟩ _ HX.out.2.net.net rfl HJ.out.1 HJ.out.2.2.2).mono ?_)
                    rintro e5 w5 ⟨v, rfl, bo, bc, F5, rfl, g1, g2, g3, g4, g5⟩
                    have ht5 := HX.out.2.wrote g1 g5 (fun k hk => .inl (g4 k hk))
                    have hT5 := g5.heap HX.out.1 (fun hj => HTF.out _ hj rfl)
                    have hcl := ht5.own.le
                    obtain ⟨lb, loff, hlo, r0, r1, r2, _⟩ := ht5.row.at HJ.out.2.1
                    subst hlo
                    have HZ := Lib.hid (And.intro ht5 (And.intro hT5 g2.bts))
                    clear g1 g2 g3 g4 g5 ht5 hT5 r0 r1 r2
                    have hbz := (Below.refl w5.heap.size w5).alloc (Nat.le_refl _) (.cells #[.int .i64 xf, .int .i64 xd, .slice bo xb.length bc] 29)
                    have hMz := heap_top w5 (.cells #[.int .i64 xf, .int .i64 xd, .slice bo xb.length bc] 29)
                    have hTz := heap_new (o := .cells #[.int .i64 xf, .int .i64 xd, .slice bo xb.length bc] 29) HZ.out.2.1
                    have HZ1 := Lib.hid (And.intro (HZ.out.1.stays hbz) (And.intro hTz (And.intro hMz (HZ.out.2.2.below hbz))))
                    clear hbz hMz hTz
                    go_wp2
                    generalize w5.alloc (.cells #[.int .i64 xf, .int .i64 xd, .slice bo xb.length bc] 29) = wz at *
                    generalize w5.heap.size = M at *
                    have HR1 := Lib.hid (show MsgsRow ((wz.alloc (.cells #[.int .i64 xf, .int .i64 xd, .slice bo xb.length bc] 29)).drew) (some ⟨wz.heap.size, 0, none⟩) [⟨⟨xf, xd, xb⟩, bo, bc⟩] from one_row wz ⟨⟨xf, xd, xb⟩, bo, bc⟩ HZ1.out.2.2.2)
                    have HR2 := Lib.hid (show MsgsRow ((wz.alloc (.cells #[.int .i64 xf, .int .i64 xd, .slice bo xb.length bc] 29)).drew) (some ⟨lb, loff + j * 3, none⟩) [⟨⟨xf, xd, xb⟩, xo, xc⟩] from ((HZ1.out.1.alloc _).row.sub HJ.out.2.1))
                    have HRT := Lib.hid (show Two w ((wz.alloc (.cells #[.int .i64 xf, .int .i64 xd, .slice bo xb.length bc] 29)).drew) p _ _ n cap es F5 from (HZ1.out.1.alloc _).drew)
                    have HRX := Lib.hid (show ((wz.alloc (.cells #[.int .i64 xf, .int .i64 xd, .slice bo xb.length bc] 29)).drew).heap[T]? = _ from heap_new HZ1.out.2.1)
                    obtain ⟨v0, v1, v2, _⟩ := cells3 (w := wz.drew) HZ1.out.2.2.1
                    obtain ⟨_, _, _, u4⟩ := act_cells (w := wz.drew) HZ1.out.2.1
                    have hj0 : (0 : Int) ≤ (j : Int) := by omega
                    have hj1 : (j : Int) + 1 ≤ (cap : Int) := by omega
                    have hj2 : (0 : Int) ≤ (j : Int) + 1 := by omega
                    have hj3 : ((j : Int) + 1).toNat = j + 1 := by omega
                    have hj4 : (j : Int) ≤ (j : Int) + 1 := by omega
                    have hj5 := IntWalk.i64_in ((j : Int) + 1) (by omega)
                    have hj6 : ¬ cap = j := by omega
                    have hj7 : j + 1 - j = 1 := by omega
                    have hMl : M < wz.heap.size := heap_lt HZ1.out.2.2.1
                    have hTz : T < wz.heap.size := heap_lt HZ1.out.2.1
                    obtain ⟨y0, y1, y2, _⟩ := cells3 (w := (wz.alloc (.cells #[.int .i64 xf, .int .i64 xd, .slice bo xb.length bc] 29)).drew) (heap_new HZ1.out.2.2.1)
                    obtain ⟨_, _, _, y4⟩ := act_cells HRX.out
                    have HC := Lib.hid (fun w6 (g2 : Below ((wz.alloc (.cells #[.int .i64 xf, .int .i64 xd, .slice bo xb.length bc] 29)).drew).heap.size ((wz.alloc (.cells #[.int .i64 xf, .int .i64 xd, .slice bo xb.length bc] 29)).drew) w6) => (And.intro ((Chg.of_below g2 (fun _ => False)).heap HRX.out (fun h => h)) (And.intro ((Chg.of_below g2 (fun _ => False)).heap (w := (wz.alloc (.cells #[.int .i64 xf, .int .i64 xd, .slice bo xb.length bc] 29)).drew) (heap_new HZ1.out.2.2.1) (fun h => h)) (HRT.out.stays g2))))
                    go_region_held3 (fun w' => w'.cell? ⟨M, 0, none⟩ = some (.int .i64 xf) ∧ w'.cell? ⟨M, 1, none⟩ = some (.int .i64 xd) ∧ w'.cell? ⟨M, 2, none⟩ = some (.slice bo xb.length bc) ∧ w'.cell? ⟨T, 4, none⟩ = some (.int .i64 (j : Int)))
                      (first | assumption | go_keep)
                      (first | (go_at_call 15; (with_reducible refine (same_msgs (some ⟨wz.heap.size, 0, none⟩) (some ⟨lb, loff + j * 3, none⟩) 1 1 (cap - j) [⟨⟨xf, xd, xb⟩, bo, bc⟩] [⟨⟨xf, xd, xb⟩, xo, xc⟩] _ HR1.out HR2.out rfl rfl rfl (by decide)).mono ?_); rintro e6 w6 ⟨rfl, g2⟩; obtain ⟨hTh, hMh, hTw⟩ := HC.out _ g2; obtain ⟨a0, a1, a2, _⟩ := cells3 hMh; obtain ⟨_, _, _, a4⟩ := act_cells hTh; have H6 := Lib.hid (And.intro hTh hTw); clear g2 hTh hMh hTw))
                    clear y0 y1 y2 y4 v0 v1 v2 u4 hMl hTz HRT HRX HC HR1 HR2 HZ1 HZ hj7 hj5
                    obtain ⟨A, hA⟩ : ∃ A : Option Addr, (if cap = j + 1 then some (⟨lb, loff, none⟩ : Addr) else some ⟨lb, loff + (j + 1) * 3, none⟩) = A := ⟨_, rfl⟩
                    have HO0 := Lib.hid (Own.alloc0 w6 3 29 (0, 0)).drew
                    have HL1 := Lib.hid (show ((es.take j).flatMap Ent.cells).length = j * 3 by rw [flat_len, List.length_take, H6.out.2.len]; omega)
                    have HL2 := Lib.hid (show ((es.drop (j + 1)).flatMap Ent.cells).length = (n - (j + 1)) * 3 by rw [flat_len, List.length_drop, H6.out.2.len])
                    have HRW := Lib.hid (show Row ((w6.alloc (.cells #[] 29)).drew) (some ⟨lb, loff, none⟩) ((es.take j).flatMap Ent.cells) by rw [← flat_take]; exact (((H6.out.2.alloc _).drew).own.row.take (j * 3)))
                    have HEM := Lib.hid (fun (w7 : World) (hch : Chg (fun k => ∃ a, some (⟨w6.heap.size, 0, none⟩ : Addr) = some a ∧ a.block = k) ((w6.alloc (.cells #[] 29)).drew) w7) => show Below w6.heap.size w6 w7 ∧ Row w7 A ((es.drop (j + 1)).flatMap Ent.cells) from hA ▸ erase_mid (w7 := w7) (j := j) (o := .cells #[] 29) H6.out.2 hch)
                    have hje : j ≤ cap := by omega
                    have hji : (j : Int) ≤ (cap : Int) := by omega
                    have hjn1 : (j : Int) + 1 ≤ (n : Int) := by omega
                    have hnc : (n : Int) ≤ (cap : Int) := by omega
                    go_wp2
                    have b4 : w6.drew.cell? ⟨T, 4, none⟩ = some (.int .i64 (j : Int)) := a4
                    clear a0 a1 a2
                    have hT6 : T < w6.heap.size := heap_lt H6.out.1
                    have hg1 : j + (n - (j + 1)) ≤ 1000 := by omega
                    have hj5 := IntWalk.i64_in ((j : Int) + 1) (by omega)
                    have b5 : ((w6.alloc (.cells #[] 29)).drew).cell? ⟨T, 4, none⟩ = some (.int .i64 (j : Int)) := ((Chg.refl (fun _ => False) w6).alloc _).cell a4 (fun h => h)
                    go_region_held3 (fun w' => w'.cell? ⟨T, 4, none⟩ = some (.int .i64 (j : Int))) (first | assumption | go_keep) (first
                      | (refine step_append' rfl (.tmp 157) (.tmp 161) el_msg rfl (c := cap) ?hs ?hx HO0.out HL1.out HRW.out (flat_one _) ?g1 ?g2 ?_; (case hs => simp [Act.eval, Act.put]); (case hx => simp [Act.eval, Act.put]); (case g1 => unfold maxLen; clear hj5; omega); (case g2 => clear hj5; omega); simp only [Nat.zero_add, List.nil_append]; intro xo7 xc7 w7 hx7 hch7 _ hx27; obtain ⟨hb7, hr7⟩ := HEM.out w7 hch7; have c4 := (Chg.of_below hb7 (fun _ => False)).cell a4 (fun h => h); have H7 := Lib.hid (And.intro hx7 (And.intro hb7 (And.intro hr7 (new_blk (Below.refl _ _) hx27)))); clear hx7 hch7 hx27 hb7 hr7)
                      | (refine step_append' rfl (.tmp 162) (.tmp 167) el_msg rfl (c := cap - (j + 1)) ?hs ?hx H7.out.1 HL2.out H7.out.2.2.1 (flat_one _) ?g1 ?g2 ?_; (case hs => simp [Act.eval, Act.put]); (case hx => simp [Act.eval, Act.put]); (case g1 => unfold maxLen; clear hj5; omega); (case g2 => clear hj5; omega); intro yo8 yc8 w8 hx8 hch8 _ hx28; have c8 := hch8.cell c4 (fun ⟨a, ha, e⟩ => by have := H7.out.2.2.2 a ha; have : a.block = T := e; clear hj5; omega); rw [← List.flatMap_append, ← List.eraseIdx_eq_take_drop_succ] at hx8; have H8 := Lib.hid (erase_end H6.out.2 H7.out.2.1 H7.out.2.2.2 hx8 hch8 hx28); clear hx8 hch8 hx28))
                    clear hj5
                    go_wp2
                    go_meet
                    exact ⟨_, yo8, _, yc8, es.eraseIdx j, F5, rfl, H8.out, by rw [erase_map, HM.out.1], by omega, fun m hm => HM.out.2 m (List.mem_of_mem_eraseIdx hm)⟩
                  -- END7
              · cases Q
                · -- BEGIN10
                  as_aux_lemma =>
                    have HO := Lib.hid (show i < 0 ∨ (ms.length : Int) ≤ i by have h := HQ.out; simp at h; rw [← HM.out.1, List.length_map, HX.out.2.len]; omega)
                    go_wp2_with (go_at_call 11; (with_reducible refine (double_out p ms F i _ HX.out.2.net.net HO.out).mono ?_); rintro e5 w5 ⟨rfl, rfl⟩)
                    go_meet
                    exact ⟨ms, lo, n, cap, es, F, rfl, HX.out.2, HM.out.1, by omega, HM.out.2⟩
                  -- END10
                · -- BEGIN9
                  as_aux_lemma =>
                    obtain ⟨hi0, hin⟩ := HQ.out.1 rfl
                    obtain ⟨j, rfl⟩ : ∃ j : Nat, i = (j : Int) := ⟨i.toNat, by omega⟩
                    have hjn : j < n := by omega
                    obtain ⟨x, hx⟩ : ∃ x, es[j]? = some x := ⟨_, List.getElem?_eq_getElem (by rw [HX.out.2.len]; exact hjn)⟩
                    have hmx : ms[j]? = some x.m := by rw [← HM.out.1, List.getElem?_map, hx]; rfl
                    have hxl := HM.out.2 _ (List.mem_of_getElem? hmx)
                    have HJ := Lib.hid (And.intro hmx (And.intro hxl (And.intro (HX.out.2.bod x (List.mem_of_getElem? hx)) (show ms.length < 4096 by rw [← HM.out.1, List.length_map, HX.out.2.len]; omega))))
                    have HJX := Lib.hid hx
                    clear hmx hxl hx
                    go_wp2_with (first
                      | (go_at_call 11; (with_reducible refine (double_any p ms F (j : Int) j x.m _ HX.out.2.net.net rfl HJ.out.1 HJ.out.2.1 HJ.out.2.2.2).mono ?_); rintro e5 w5 ⟨rfl, F5, g1, g2, g3⟩; have ht5 := HX.out.2.wrote g1 g2 g3; have hT5 := g2.heap HX.out.1 (fun hj => HTF.out _ hj rfl); obtain ⟨m1, m2, m3, m4⟩ := act_cells hT5; obtain ⟨lb, loff, hlo, r0, r1, r2, _⟩ := ht5.row.at HJX.out; subst hlo; have HZ5 := Lib.hid ht5; clear g1 g2 g3 ht5 hT5)
                      | (at_builtin; refine wpList_append' rfl (.tmp 188) (.tmp 194) el_msg rfl rfl rfl (HZ5.out.alloc _).own (m := 1) (news := x.cells) rfl (Row.alloc _ _ _ _) (msg_one x) (by unfold maxLen; omega) (by omega) ?_; intro xo xc w8 hx hch _ hx2; have HZ := Lib.hid (app_one (e := x) HZ5.out HJ.out.2.2.1 hx hch hx2); clear hx hch hx2))
                    go_meet
                    exact HeadIs.snoc (e := x) HZ.out HM.out.1 hnk HM.out.2 HJ.out.2.1
                  -- END9
              · -- BEGIN11
                as_aux_lemma =>
                  go_wp2
                  go_loopg [11, 200] n (fun g v i wx => ∃ (j : Nat) (ro : Option Addr) (rn rc : Nat) (rs : List Ent), g + j = n ∧ i = .int .i64 j ∧ v = .slice ro rn rc ∧ rs = (es.take j).filter (fun e => !(e.m.dst == d)) ∧ Own wx 3 ro rn rc (rs.flatMap Ent.cells) ∧ (∀ a, ro = some a → wc.heap.size ≤ a.block) ∧ Below wc.heap.size wc wx)
                  case atStart => exact ⟨0, none, 0, 0, [], by omega, rfl, rfl, by simp, Own.nil' _ _, by simp, Below.refl _ _⟩
                  case round =>
                    obtain ⟨j, ro, rn, rc, rs, hj, rfl, rfl, hrs, hown, hnew, hb⟩ := hrel
                    have hrn : rn ≤ j := by
                      have h1 := hown.len
                      rw [flat_len, hrs] at h1
                      have h2 := List.length_filter_le (fun e : Ent => !(e.m.dst == d)) (es.take j)
                      rw [List.length_take] at h2
                      omega
                    have hT6 := (Chg.of_below hb (fun _ => False)).heap HX.out.1 (fun h => h)
                    obtain ⟨b1, b2, b3, b4⟩ := act_cells hT6
                    have HR := Lib.hid (And.intro hrs (And.intro hown (And.intro hnew (And.intro hb (HX.out.2.stays hb)))))
                    have hTx := heap_lt hT6
                    clear hrs hown hnew hb hT6
                    by_cases hjn : j < n
                    · obtain ⟨⟨⟨xf, xd, xb⟩, xo, xc⟩, hx⟩ : ∃ x, es[j]? = some x := ⟨_, List.getElem?_eq_getElem (by rw [HX.out.2.len]; exact hjn)⟩
                      obtain ⟨lb, loff, hlo, r0, r1, r2, _⟩ := HR.out.2.2.2.2.row.at hx
                      subst hlo
                      have HXX := Lib.hid (show es.take (j + 1) = es.take j ++ [⟨⟨xf, xd, xb⟩, xo, xc⟩] by rw [List.take_add_one, hx]; rfl)
                      clear hx
                      by_cases hd : xd = d
                      · have hd1 : (xd == d) = true := by simp [hd]
                        have hd2 : (xd != d) = false := by simp [hd]
                        have HD := Lib.hid hd1
                        clear hd
                        go_wp2
                        go_roundg (gk - 1)
                        case measure => omega
                        case rel =>
                          refine ⟨j + 1, ro, rn, rc, rs, by omega, by go_num, rfl, ?_, HR.out.2.1.keep ((Chg.refl (fun _ => False) wr).alloc _) (fun _ _ h => h), HR.out.2.2.1, HR.out.2.2.2.1.alloc HR.out.2.2.2.1.size _⟩
                          rw [HXX.out, List.filter_append, ← HR.out.1]
                          simp [HD.out]
                      · have hd1 : (xd == d) = false := by simp [hd]
                        have hd2 : (xd != d) = true := by simp [hd]
                        have HD := Lib.hid hd1
                        clear hd
                        have hrow := Row.alloc (wr.alloc (.cells #[.int .i64 xf, .int .i64 xd, .slice xo xb.length xc] 29)) #[.int .i64 xf, .int .i64 xd, .slice xo xb.length xc] 29 (0, 0)
                        rw [size_alloc] at hrow
                        have HROW := Lib.hid hrow
                        have HO2 := Lib.hid (HR.out.2.1.keep (((Chg.refl (fun _ => False) wr).alloc (.cells #[.int .i64 xf, .int .i64 xd, .slice xo xb.length xc] 29)).alloc (.cells #[.int .i64 xf, .int .i64 xd, .slice xo xb.length xc] 29)) (fun _ _ h => h))
                        clear hrow
                        go_wp2_with (at_builtin; refine wpList_append' rfl (.tmp 210) (.tmp 212) el_msg rfl rfl rfl HO2.out (m := 1) (news := (Ent.mk ⟨xf, xd, xb⟩ xo xc).cells) rfl HROW.out (msg_one ⟨⟨xf, xd, xb⟩, xo, xc⟩) (by unfold maxLen; omega) (by omega) ?_; intro yo yc w8 hx hch _ hx2; have H8 := Lib.hid (And.intro hx (And.intro hch hx2)); clear hx hch hx2)
                        go_roundg (gk - 1)
                        case measure => omega
                        case rel =>
                          obtain ⟨hx8, hch8, hx28⟩ := H8.out
                          have hb2 := (HR.out.2.2.2.1.alloc HR.out.2.2.2.1.size (.cells #[.int .i64 xf, .int .i64 xd, .slice xo xb.length xc] 29))
                          have hb3 := hb2.alloc hb2.size (.cells #[.int .i64 xf, .int .i64 xd, .slice xo xb.length xc] 29)
                          refine ⟨j + 1, yo, rn + 1, yc, rs ++ [⟨⟨xf, xd, xb⟩, xo, xc⟩], by omega, by go_num, rfl, ?_, by rw [List.flatMap_append]; simpa using hx8, fun a ha => ?_, hb3.trans (hch8.below hb3.size ?_)⟩
                          · rw [HXX.out, List.filter_append, ← HR.out.1]
                            simp [HD.out]
                          · rcases hx28 a ha with h | h
                            · exact HR.out.2.2.1 a h
                            · exact Nat.le_trans hb3.size h
                          · rintro i ⟨a, ha, e⟩
                            exact e ▸ HR.out.2.2.1 a ha
                    · obtain rfl : j = n := by omega
                      have htk : es.take j = es := List.take_of_length_le (by rw [HX.out.2.len]; exact Nat.le_refl _)
                      have hrs2 : rs = es.filter (fun e => !(e.m.dst == d)) := by rw [HR.out.1, htk]
                      have hrl : rs.length = rn := by have h1 := HR.out.2.1.len; rw [flat_len] at h1; omega
                      have hms : ms.filter (fun m => !(m.dst == d)) = rs.map Ent.m := by rw [hrs2, map_filt, HM.out.1]
                      have hml : ms.length = j := by rw [← HM.out.1, List.length_map, HX.out.2.len]
                      have HCT := Lib.hid (And.intro hms (And.intro hrs2 (And.intro (show ms.length ≤ 4096 by omega) (show (ms.length : Int) - ((ms.filter (fun m => !(m.dst == d))).length : Int) = (j : Int) - (rn : Int) by rw [hms, hml, List.length_map, hrl]))))
                      clear htk hrs2 hrl hms hml
                      have hwr := IntWalk.i64_in ((j : Int) - (rn : Int)) (by omega)
                      go_wp2_with fail
                      (with_reducible refine (cut_any p ms F d _ HR.out.2.2.2.2.net.net HCT.out.2.2.1).mono ?_)
                      rintro e9 w9 ⟨he, F9, g1, g2, g3⟩
                      rw [HCT.out.2.2.2] at he
                      subst he
                      have H9 := Lib.hid (rest_end HX.out.2 HR.out.2.2.2.1 HR.out.2.1 HR.out.2.2.1 (fun e he => by rw [HCT.out.2.1] at he; exact (List.mem_filter.1 he).1) g1 g2 g3)
                      clear g1 g2 g3
                      go_wp2
                      go_meet
                      exact ⟨_, ro, rn, rc, rs, F9, rfl, H9.out, HCT.out.1.symm, by omega, fun m hm => HM.out.2 m (List.mem_filter.1 hm).1⟩
                -- END11
            case rest =>
              -- BEGIN12
              as_aux_lemma =>
                obtain ⟨ms', lo', n', cap', es', F', rfl, ht, hm, hnk', hsh⟩ := hcut
                have HE := Lib.hid (And.intro ht (And.intro hm hsh))
                have hml : ms'.length = n' := by rw [← hm, List.length_map, ht.len]
                have HL := Lib.hid (And.intro (show (n' : Int) = (ms'.length : Int) by rw [hml]) hml)
                have hn4 : n' ≤ 4096 := by omega
                have hn6 : n' ≤ 1000000 := by omega
                clear ht hm hsh hml
                go_wp2_with (first
                  | (go_at_call 14; (with_reducible refine (len_in w p ms' F' (n' : Int) _ HE.out.1.net HL.out.1).mono ?_); rintro e6 w6 ⟨rfl, rfl⟩)
                  | (go_at_call 12; (with_reducible refine (all_in w p ms' F' n' _ HE.out.1.net HL.out.2 hn4 HE.out.2.2).mono ?_); rintro e7 w7 ⟨oo, oc, ls, rfl, hm7, hes, hn7, hb7⟩; have H7 := Lib.hid (And.intro hm7 (And.intro hes (HE.out.1.stays hb7))); clear hm7 hes hn7 hb7)
                  | (go_at_call 15; (with_reducible refine (same_msgs oo lo' n' oc cap' ls es' _ H7.out.1.rows H7.out.2.2.row H7.out.1.len H7.out.2.2.len (H7.out.2.1.trans HE.out.2.1.symm) hn6).mono ?_); rintro e8 w8 ⟨rfl, hb8⟩; have H8 := Lib.hid (H7.out.2.2.stays hb8); clear hb8))
                go_roundg (K0 - 1)
                case measure => omega
                case rel => exact ⟨k + 1, by omega, by go_num, ms', lo', n', cap', es', F', rfl, H8.out, HE.out.2.1, by omega, HE.out.2.2⟩
              -- END12
    · go_wp2
      go_ret
      exact ⟨rfl, HP.out.1.net.below⟩
theorem netPlays_in (W : World) (base : Nat) (v0 : Value) (k0 : Value.okWide Try.prog W .any base 41 v0) (r0 : Rd Try.prog W 41 v0.cells.toList) :
    Calls Try.prog 5 #[v0] W fun e w' => e = .returned (.bool true) ∧ Below W.heap.size W w' := by
  obtain ⟨co, zs, e, rfl, hc, hl, hm⟩ := in_slice Try.underlying41 (size := 6) (by kernel_rfl) (by decide) (ActIs W) (fun es h => act_rd h) k0 r0
  exact netPlays_any co _ e zs W rfl hc (Nat.le_trans hl hm)
end Go.Proofs.Ytgbfpllaianeaaa
