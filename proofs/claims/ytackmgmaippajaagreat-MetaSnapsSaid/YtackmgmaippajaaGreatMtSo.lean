/-
  LAYER 8: the law MetaSnaps.
-/
import Derived.Test.YtackmgmaippajaaGreatMtSn
namespace Go.Proofs.YtackmgmaippajaaGreat
open Go Go.RowKit

set_option maxHeartbeats 4000000 in
set_option maxRecDepth 100000 in
theorem metaSnaps_any (po : Option Addr) (N pc : Nat) (ps : List CmT) (ev : Nat) (w : World) (h : RowOf w po 6 (fun t cs => CmIs w t.c t.vo t.vc cs) ps) (hN : ps.length = N) (hN2 : N ≤ maxLen) (hev : ev < 256) :
    Calls Tryz.prog 5 #[.slice po N pc, .int .u8 (ev : Int)] w fun e w' => e = .returned (.bool true) ∧ Below w.heap.size w w' := by
  have HH := Lib.hid (And.intro h hN)
  unfold maxLen at hN2
  clear h hN
  go_enter Tryz.func5, Tryz.ntmps5
  go_upto_region 4 with (first
    | (go_at_call 7; (with_reducible refine (awake _).mono ?_); rintro e w1 ⟨rfl, hb⟩; have H1 := Lib.hid hb; clear hb)
    | (go_at_call 13; (with_reducible refine (disk_in w 4194304 4194304 _ H1.out rfl (by decide)).mono ?_); rintro e w2 ⟨p, rfl, hb, hd, hp⟩; have H2 := Lib.hid (And.intro (H1.out.trans (hb.mono H1.out.size)) (And.intro hd (Nat.le_trans H1.out.size hp))); clear hb hd hp))
  go_upto_region 5 with (go_at_call 13; (with_reducible refine (disk_in w 4194304 4194304 _ H2.out.1 rfl (by decide)).mono ?_); rintro e w3 ⟨q, rfl, hb, hd, hq⟩; have H3 := Lib.hid (show Jr.DiskAt 102 w3 p ⟨4194304, 0, []⟩ [p] ∧ Below w.heap.size w w3 ∧ Jr.DiskAt 102 w3 q ⟨4194304, 0, []⟩ [q] ∧ w2.heap.size ≤ q ∧ p < w2.heap.size from ⟨H2.out.2.1.keep (Chg.of_below hb (fun _ => False)) (fun _ _ h => h), H2.out.1.trans (hb.mono H2.out.1.size), hd, hq, H2.out.2.1.lt p (by simp)⟩); clear hb hd hq)
  go_upto_region 6 with (go_at_call 14; (with_reducible refine (open_in w p 4194304 0 [p] _ H3.out.1 H3.out.2.1 (fun i hi => by rw [List.mem_singleton] at hi; rw [hi]; exact H2.out.2.2)).mono ?_); rintro e w4 ⟨k, B, rfl, hk, hc, hB⟩; have H4 := Lib.hid (And.intro hk (And.intro hB (H3.out.2.2.1.keep hc (fun i hi h => by have := H3.out.2.2.2.1; have := H3.out.2.2.2.2; rw [List.mem_singleton] at hi h; omega)))); clear hk hc hB)
  go_upto_region 7 with (go_at_call 14; (with_reducible refine (open_in w q 4194304 0 [q] _ H4.out.2.2 H4.out.1.below (fun i hi => by have := H3.out.2.2.2.1; have := H2.out.1.size; rw [List.mem_singleton] at hi; omega)).mono ?_); rintro e w5 ⟨k2, B2, rfl, hk, hc, hB⟩; have H5 := Lib.hid (Two.made H4.out.1 H4.out.2.1 (by have := H3.out.2.2.2.1; have := H3.out.2.2.2.2; omega) (H3.out.2.2.1.lt q (by simp)) (by have := H3.out.2.2.2.1; have := H2.out.1.size; omega) hk hc hB); clear hk hc hB)
  clear H1 H2 H3 H4
  go_upto_block 0 with fail
  go_cut [] (fun wx => ∃ j s d B d2 B2, j ≤ 82 ∧ Two w wx k p s d B j k2 q s d2 B2 j ∧ SnapI s d j ∧ s.ps.length ≤ 41)
  case first =>
    go_wp2
    go_loopg [54] N (fun g i wr => ∃ j s d B d2 B2, g + j = N ∧ i = .int .i64 (j : Nat) ∧ j ≤ 41 ∧ Two w wr k p s d B (2 * j) k2 q s d2 B2 (2 * j) ∧ SnapI s d (2 * j) ∧ SnapI s d2 (2 * j) ∧ s.ps.length ≤ j)
    case atStart => exact ⟨0, St.new, _, B, _, B2, by omega, rfl, by omega, H5.out, SnapI.nil, SnapI.nil, Nat.le_refl _⟩
    case round =>
      obtain ⟨j, s, d, B4, d2, B5, hgj, rfl, hj, hk, hi1, hi2, hps⟩ := hrel
      have HK := Lib.hid (And.intro hk (And.intro hi1 (And.intro hi2 hps)))
      by_cases hjN : j < N
      · have hji : (j : Int) < (N : Int) := by omega
        have hj0 : (0 : Int) ≤ (j : Int) := by omega
        obtain ⟨b, off, c, vo, vc, rfl, hcm, hcell⟩ := cmt_of HH.out.1 (k := j) (by rw [HH.out.2]; exact hjN)
        obtain ⟨c0, c1, c2, c3, c4, c5⟩ := hcell wr hk.one.below
        have HC := Lib.hid hcm
        clear hcm hcell hk hi1 hi2 hps
        by_cases h40 : 40 < j
        · have h40i : (40 : Int) < (j : Int) := by omega
          have HB := Lib.hid (HK.out.1.stays ((Below.refl wr.heap.size wr).alloc (Nat.le_refl _) (.cells #[.int .u8 (c.kind : Int), .string c.key, .slice vo c.val.length vc, .int .u64 (c.want : Int), .int .u64 (c.sess : Int), .int .u64 (c.ticks : Int)] 39)))
          go_wp2
          go_meet
          exact ⟨2 * j, s, d, B4, d2, B5, by omega, HB.out, HK.out.2.1, by have := HK.out.2.2.2; omega⟩
        · have h40i : ¬ (40 : Int) < (j : Int) := by omega
          have hA := (Below.refl wr.heap.size wr).alloc (Nat.le_refl _) (.cells #[.int .u8 (c.kind : Int), .string c.key, .slice vo c.val.length vc, .int .u64 (c.want : Int), .int .u64 (c.sess : Int), .int .u64 (c.ticks : Int)] 39)
          have hT := heap_top wr (.cells #[.int .u8 (c.kind : Int), .string c.key, .slice vo c.val.length vc, .int .u64 (c.want : Int), .int .u64 (c.sess : Int), .int .u64 (c.ticks : Int)] 39)
          have HA := Lib.hid (And.intro hA hT)
          clear hA hT
          go_upto_region 12 with fail
          generalize wr.alloc (.cells #[.int .u8 (c.kind : Int), .string c.key, .slice vo c.val.length vc, .int .u64 (c.want : Int), .int .u64 (c.sess : Int), .int .u64 (c.ticks : Int)] 39) = wa at *
          obtain ⟨a0, a1, a2, a3, a4, a5⟩ := cells6 HA.out.2 (Below.refl _ _)
          by_cases hlong : c.long = true
          · go_wp2_with (go_at_call 8; (with_reducible refine (long_c c vo vc _).mono ?_); rintro e w4 ⟨rfl, hb⟩; have H4 := Lib.hid hb; rw [hlong]; clear hb)
            go_meet
            exact ⟨2 * j, s, d, B4, d2, B5, by omega, HK.out.1.stays (HA.out.1.trans (H4.out.mono HA.out.1.size)), HK.out.2.1, by have := HK.out.2.2.2; omega⟩
          · have hlong0 : c.long = false := by simpa using hlong
            have HL := Lib.hid (Cm.long_false hlong0)
            clear hlong
            go_upto_region 13 with (go_at_call 8; (with_reducible refine (long_c c vo vc _).mono ?_); rintro e w4 ⟨rfl, hb⟩; rw [hlong0]; have hT4 := (Chg.of_below hb (fun _ => False)).heap HA.out.2 (fun h => h); obtain ⟨b0, b1, b2, b3, b4, b5⟩ := cells6 hT4 (Below.refl _ _); have H4 := Lib.hid (And.intro (HA.out.1.trans (hb.mono HA.out.1.size)) hT4); clear hb hT4)
            clear a0 a1 a2 a3 a4 a5
            obtain ⟨T, hTq⟩ : ∃ T, wr.heap.size = T := ⟨_, rfl⟩
            have HTB := Lib.hid (show w.heap.size ≤ T ∧ (∀ i ∈ B4, i < T) ∧ ∀ i ∈ B5, i < T from ⟨hTq ▸ HK.out.1.one.below.size, fun i hi => hTq ▸ HK.out.1.one.lt i hi, fun i hi => hTq ▸ HK.out.1.two.lt i hi⟩)
            rw [hTq] at H4 b0 b1 b2 b3 b4 b5 ⊢
            have f0 := heap_frozen H4.out.2 0
            have f1 := heap_frozen H4.out.2 1
            have f2 := heap_frozen H4.out.2 2
            have f3 := heap_frozen H4.out.2 3
            have f4 := heap_frozen H4.out.2 4
            have f5 := heap_frozen H4.out.2 5
            go_upto_region 14 with (go_at_call 9; (with_reducible refine (cmd_c c vo vc _ HC.out.kind HL.out.1).mono ?_); rintro e w5 ⟨q9, K, rfl, hq, hK, hb⟩; have hT5 := (Chg.of_below hb (fun _ => False)).heap H4.out.2 (fun h => h); obtain ⟨d0, d1, d2', d3, d4, d5⟩ := cells6 hT5 (Below.refl _ _); have g0 := heap_frozen hT5 0; have g1 := heap_frozen hT5 1; have g2 := heap_frozen hT5 2; have g3 := heap_frozen hT5 3; have g4 := heap_frozen hT5 4; have g5 := heap_frozen hT5 5; have H5 := Lib.hid (And.intro (H4.out.1.trans (hb.mono (hTq ▸ H4.out.1.size))) (And.intro hT5 (And.intro hq hK))); clear hb hT5 hq hK)
            have hT6 := six_set (a := .int .u8 (q9 : Int)) (b := .string K) (c := .slice vo c.val.length vc) (d := .int .u64 (c.want : Int)) (e := .int .u64 (c.sess : Int)) (f := .int .u64 (c.ticks : Int)) H5.out.2.1
            have hch6 := six_chg w5 T (.int .u8 (q9 : Int)) (.string K) (.slice vo c.val.length vc) (.int .u64 (c.want : Int)) (.int .u64 (c.sess : Int)) (.int .u64 (c.ticks : Int))
            have hk6 := (HK.out.1.stays (hTq ▸ H5.out.1)).keep hch6 (fun i hi e => Nat.lt_irrefl T (e ▸ HTB.out.2.1 i hi)) (fun i hi e => Nat.lt_irrefl T (e ▸ HTB.out.2.2 i hi)) (fun i hi => hi ▸ HTB.out.1)
            generalize (((((w5.setCell ⟨T, 0, none⟩ (.int .u8 (q9 : Int))).setCell ⟨T, 1, none⟩ (.string K)).setCell ⟨T, 2, none⟩ (.slice vo c.val.length vc)).setCell ⟨T, 3, none⟩ (.int .u64 (c.want : Int))).setCell ⟨T, 4, none⟩ (.int .u64 (c.sess : Int))).setCell ⟨T, 5, none⟩ (.int .u64 (c.ticks : Int)) = W6 at *
            have H6 := Lib.hid (And.intro hk6 hT6)
            have HFit := Lib.hid (show (⟨q9, K, c.val, c.want, c.sess, c.ticks⟩ : Cm).Fit from ⟨by have := H5.out.2.2.1; show q9 < 256; omega, H5.out.2.2.2, HL.out.2, HC.out.want, HC.out.sess, HC.out.ticks⟩)
            clear hk6 hT6 hch6 f0 f1 f2 f3 f4 f5 b0 b1 b2 b3 b4 b5 d0 d1 d2' d3 d4 d5 g0 g1 g2 g3 g4 g5
            obtain ⟨d', hr1, hs1⟩ := HK.out.2.1.do (c := ⟨q9, K, c.val, c.want, c.sess, c.ticks⟩) HK.out.1.one.fit.ok HFit.out (by omega)
            obtain ⟨e', hr2, hs2⟩ := HK.out.2.2.1.do (c := ⟨q9, K, c.val, c.want, c.sess, c.ticks⟩) HK.out.1.one.fit.ok HFit.out (by omega)
            obtain ⟨R, hR⟩ : ∃ R, doR s ⟨q9, K, c.val, c.want, c.sess, c.ticks⟩ = R := ⟨_, rfl⟩
            have hlen : R.1.ps.length ≤ s.ps.length + 1 := hR ▸ doR_len
            have HI := Lib.hid (show SnapI R.1 d' (2 * j + 1) ∧ SnapI R.1 e' (2 * j + 1) from ⟨hR ▸ hs1, hR ▸ hs2⟩)
            obtain ⟨s', n', gone, code⟩ := R
            have HR := Lib.hid (And.intro hR (And.intro hr1 (And.intro hr2 hlen)))
            have hps := HK.out.2.2.2
            clear hR hr1 hr2 hs1 hs2 hlen
            obtain ⟨d0, d1, d2', d3, d4, d5⟩ := cells6 H6.out.2 (Below.refl _ _)
            have HV := Lib.hid (HC.out.val.below H6.out.1.one.below)
            go_upto_region 15 with (go_at_call 18; (with_reducible refine (do_room w k p (2 * j) s d d' B4 ⟨q9, K, c.val, c.want, c.sess, c.ticks⟩ vo vc s' n' gone code _ H6.out.1.one (by omega) (by omega) HFit.out HV.out HR.out.1 HR.out.2.1).mono ?_); rintro e w7 ⟨uo, uc, rfl, B7, hk, hch, hB⟩; have hT7 := hch.heap H6.out.2 (fun e => Nat.lt_irrefl T (HTB.out.2.1 T e)); obtain ⟨b0, b1, b2, b3, b4, b5⟩ := cells6 hT7 (Below.refl _ _); have H7 := Lib.hid (H6.out.1.left hk hch hB); clear hk hch hB hT7)
            clear d0 d1 d2' d3 d4 d5
            have HV7 := Lib.hid (HC.out.val.below H7.out.one.below)
            go_upto_region 16 with (go_at_call 18; (with_reducible refine (do_room w k2 q (2 * j) s d2 e' B5 ⟨q9, K, c.val, c.want, c.sess, c.ticks⟩ vo vc s' n' gone code _ H7.out.two (by omega) (by omega) HFit.out HV7.out HR.out.1 HR.out.2.2.1).mono ?_); rintro e w8 ⟨uo2, uc2, rfl, B8, hk, hch, hB⟩; have H8 := Lib.hid (H7.out.right hk hch hB); clear hk hch hB)
            clear b0 b1 b2 b3 b4 b5
            obtain ⟨c4, hc4, hci⟩ : ∃ c4 : Nat, c4 < 4 ∧ ((ev : Int) % 4) = (c4 : Int) := ⟨ev % 4, by omega, by omega⟩
            have e1 : IntKind.i64.wrap (c4 : Int) = (c4 : Int) := IntWalk.i64_in _ (by omega)
            obtain ⟨m, hm⟩ : ∃ m : Int, ((j : Int) % (1 + (c4 : Int))) = m := ⟨_, rfl⟩
            have hne : ¬ ((1 : Int) + (c4 : Int) = 0) := by omega
            by_cases hz : m = 0
            · have hzb : ((m : Int) == 0) = true := by simpa using hz
              obtain ⟨code3, h3, hR3⟩ := doR_snap s'
              obtain ⟨d3, hr3, hs3⟩ := HI.out.1.do (c := cS) H8.out.one.fit.ok cS_fit (by omega)
              rw [hR3] at hr3 hs3
              have H3 := Lib.hid (And.intro hr3 hs3)
              clear hr3 hs3 hR3
              have hl3 : s'.ps.length ≤ 42 := by have := HR.out.2.2.2; omega
              go_upto_region 20 with (go_at_call 18; (with_reducible refine (do_wr w k p (2 * j + 1) s' d' d3 B7 code3 _ H8.out.one (by omega) (by omega) H3.out.1).mono ?_); rintro e w9 ⟨uo3, uc3, rfl, B9, hk, hch, hB⟩; have H9 := Lib.hid (H8.out.left hk hch hB); clear hk hch hB)
              rcases h3 with rfl | rfl
              · go_wp2
                go_roundg (gk - 1)
                case measure => omega
                case rel => exact ⟨j + 1, s', d3, B9, e', B8, by omega, by go_num, by omega, H9.out.more (by omega) (by omega), H3.out.2.up (by omega), HI.out.2.up (by omega), by have := HR.out.2.2.2; omega⟩
              · go_wp2
                go_roundg (gk - 1)
                case measure => omega
                case rel => exact ⟨j + 1, s', d3, B9, e', B8, by omega, by go_num, by omega, H9.out.more (by omega) (by omega), H3.out.2.up (by omega), HI.out.2.up (by omega), by have := HR.out.2.2.2; omega⟩
            · have hzb : ((m : Int) == 0) = false := by simpa using hz
              go_wp2
              go_roundg (gk - 1)
              case measure => omega
              case rel => exact ⟨j + 1, s', d', B7, e', B8, by omega, by go_num, by omega, H8.out.more (by omega) (by omega), HI.out.1.up (by omega), HI.out.2.up (by omega), by have := HR.out.2.2.2; omega⟩
      · go_wp2
        go_meet
        exact ⟨2 * j, s, d, B4, d2, B5, by omega, hk, hi1, by omega⟩
  case rest =>
    obtain ⟨j, s, d, B4, d2, B5, hj, hk, hi, hps⟩ := hcut
    have HK := Lib.hid hk
    obtain ⟨L, hrc, hrl⟩ := hi.recs
    have hcr := hi.crash
    have hlen : d.b.length ≤ 1000000 := by
      obtain ⟨_, _, _, _, _, h5, _⟩ := hi
      have := Nat.mul_le_mul_right 4104 hj
      omega
    have HI := Lib.hid (And.intro hrc (And.intro hrl (And.intro hcr hlen)))
    clear hk hrc hrl hcr hlen hi
    go_upto_region 24 with (go_at_call 21; (with_reducible refine (crash_kp w k p j s d B4 _ HK.out.one).mono ?_); rintro e w6 ⟨rfl, F', hd, hc, hF⟩; have H6 := Lib.hid (And.intro hd (And.intro (HK.out.two.keep hc (fun i hi h => HK.out.apart i h hi) HK.out.one.new) (And.intro (fun i hi => (hF i hi).elim (fun h => HK.out.apart i h) (fun h h2 => by have := HK.out.two.lt i h2; omega)) (fun i hi => (hF i hi).elim (fun h => HK.out.one.new i h) (fun h => Nat.le_trans HK.out.one.below.size h))))); clear hd hc hF)
    have hop := meta_open p (d.crash 0 0) F' L [] w6 H6.out.1 (by rw [HI.out.2.2.1]; exact HI.out.1) (by rw [HI.out.2.2.1]; exact HI.out.2.2.2)
    have HO := Lib.hid (open_yes hop HI.out.2.1)
    clear hop
    go_upto_region 25 with (go_at_call 14; (with_reducible refine HO.out.mono ?_); rintro e w7 ⟨k3, kp, bp, jj, F1, F2, G, rfl, hw, hk, hi, hc⟩; have hp7 := H6.out.2.1.keep hc (fun i hi h => H6.out.2.2.1 i h hi) H6.out.2.2.2; have H7 := Lib.hid (And.intro hw (And.intro hk hp7)); clear hw hk hi hc hp7)
    have hls : (Tr.listP s.ps ⟨#[]⟩).length ≤ 1000000 := by rw [Tr.listP_empty]; omega
    go_wp2_with (first
      | (go_at_call 16; (with_reducible refine (keeper_now k3 p kp bp jj s _ F1 F2 G _ H7.out.2.1).mono ?_); rintro e w8 ⟨rfl, rfl⟩)
      | (go_at_call 16; (with_reducible refine (now_in w k2 q j s d2 B5 _ H7.out.2.2).mono ?_); rintro e w9 ⟨rfl, rfl⟩)
      | (go_at_call 15; (with_reducible refine (keeper_list k3 p kp bp jj s _ F1 F2 G ⟨#[]⟩ _ H7.out.2.1 H7.out.1.fine).mono ?_); rintro e w10 ⟨xo, xc, es, rfl, hb, hn, hm, -, -⟩; have H10 := Lib.hid (And.intro (H7.out.2.2.stays hb) (And.intro hn hm)); clear hb hn hm)
      | (go_at_call 15; (with_reducible refine (list_in w k2 q j s d2 B5 ⟨#[]⟩ _ H10.out.1).mono ?_); rintro e w11 ⟨yo, yc, fs, rfl, hb, hn, hm, -, -⟩; have H11 := Lib.hid (And.intro (H10.out.1.stays hb) (And.intro (H10.out.2.1.below hb) (And.intro hn hm))); clear hb hn hm)
      | (go_at_call 19; (with_reducible refine (Tr.same_nodes xo yo _ xc yc es fs _ H11.out.2.1 H11.out.2.2.1 (by have := congrArg List.length H10.out.2.2; rwa [List.length_map] at this) (H10.out.2.2.trans H11.out.2.2.2.symm) hls).mono ?_); rintro e w12 ⟨rfl, hb⟩; have H12 := Lib.hid (H11.out.1.stays hb); clear hb))
    go_ret
    exact ⟨rfl, H12.out.below⟩
set_option maxRecDepth 100000 in
theorem metaSnaps_in (W : World) (base : Nat) (v0 v1 : Value) (k0 : Value.okWide Tryz.prog W .any base 23 v0) (k1 : Value.okWide Tryz.prog W .any base 5 v1) (r0 : Rd Tryz.prog W 23 v0.cells.toList) (r1 : Rd Tryz.prog W 5 v1.cells.toList) :
    Calls Tryz.prog 5 #[v0, v1] W fun e w' => e = .returned (.bool true) ∧ Below W.heap.size W w' := by
  obtain ⟨po, ps, pc, rfl, h4, h5, h6⟩ := in_slice Tryz.underlying23 (size := 6) (by kernel_rfl) (by decide) (fun (t : CmT) cs => CmIs W t.c t.vo t.vc cs) (fun es h => by obtain ⟨c, vo, vc, hc⟩ := cm_rd h; exact ⟨⟨c, vo, vc⟩, hc⟩) k0 r0
  obtain ⟨x, rfl⟩ := in_u8 Tryz.underlying5 k1 r1
  exact metaSnaps_any po _ pc ps x.toNat W h4 rfl (Nat.le_trans h5 h6) x.toNat_lt
end Go.Proofs.YtackmgmaippajaaGreat
