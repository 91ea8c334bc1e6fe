/-
  LAYER 4: the law DiskPlays.
-/
import Derived.Test.YtmbmahkdhpfahaaDiskA
import Derived.Deep.CutBlock
namespace Go.Proofs.Ytmbmahkdhpfahaa
open Go Go.RowKit Go.WideShapes

/-- The disk at p and the document's at q are both d; they share nothing. -/
structure Pair (w0 w : World) (p q : Nat) (d : Dsk) (F G : List Nat) : Prop where
  a : MineF 48 w0 w p d F
  b : MineF 39 w0 w q d G
  apart : ∀ k ∈ F, k ∉ G
theorem Pair.more {w0 w w' : World} {p q : Nat} {d : Dsk} {F G : List Nat} (h : Pair w0 w p q d F G) (hb : Below w.heap.size w w') : Pair w0 w' p q d F G := ⟨h.a.more hb, h.b.more hb, h.apart⟩
theorem Pair.keep {w0 w w' : World} {p q : Nat} {d : Dsk} {F G : List Nat} (h : Pair w0 w p q d F G) {S : Nat → Prop} (hc : Chg S w w') (hF : ∀ k ∈ F, ¬ S k) (hG : ∀ k ∈ G, ¬ S k) (hB : ∀ k, S k → w0.heap.size ≤ k) : Pair w0 w' p q d F G :=
  ⟨h.a.keep hc hF hB, h.b.keep hc hG hB, h.apart⟩
/-- A call on the one, then the same on the other. -/
theorem Pair.two {w0 w w1 w2 : World} {p q : Nat} {d d' : Dsk} {F G : List Nat} (h : Pair w0 w p q d F G) (h1 : DiskNow 48 w p F d' w1) (h2 : ∀ G1, MineF 39 w0 w1 q d G1 → DiskNow 39 w1 q G1 d' w2) :
    ∃ F' G', Pair w0 w2 p q d' F' G' ∧ Chg (fun k => k ∈ F ∨ k ∈ G) w w2 := by
  obtain ⟨F', hF', hc, hg⟩ := h.a.step h1
  have hb1 : MineF 39 w0 w1 q d G := h.b.keep hc (fun k hk hkF => h.apart k hkF hk) h.a.own
  obtain ⟨G', hG', hc2, hg2⟩ := hb1.step (h2 G hb1)
  have ha1 : ∀ k ∈ F', k ∉ G := apart_step h.apart hg h.b.is.lt
  have ha2 : ∀ k ∈ G', k ∉ F' := apart_step (fun k hk hkF => ha1 k hkF hk) hg2 hF'.is.lt
  refine ⟨F', G', ⟨hF'.keep hc2 ha1 hb1.own, hG', fun k hk hkG => ha2 k hkG hk⟩, (hc.to fun k hk => .inl hk).trans hc2 fun k _ hk => .inr hk⟩
theorem Pair.close {w0 w w2 : World} {p q : Nat} {d d' : Dsk} {F' G : List Nat} (ha : MineF 48 w0 w p d' F') (hb : MineF 39 w0 w q d G) (hap : ∀ k ∈ F', k ∉ G) (hn : DiskNow 39 w q G d' w2) : ∃ d' F' G', Pair w0 w2 p q d' F' G' := by
  obtain ⟨G', hG', hc2, hg2⟩ := hb.step hn
  have ha2 : ∀ k ∈ G', k ∉ F' := apart_step (fun k hk hkF => hap k hkF hk) hg2 ha.is.lt
  exact ⟨d', F', G', ha.keep hc2 hap hb.own, hG', fun k hk hkG => ha2 k hkG hk⟩
theorem wr_act (w : World) (kind : UInt8) (ao : Option Addr) (n c : Nat) (an keep bit : Int) :
    (w.alloc (.cells #[.int .u8 (kind.toNat : Int), .slice ao n c, .int .i64 an, .int .i64 keep, .int .i64 bit] 41)).heap[w.heap.size]? = some (.cells #[.int .u8 (kind.toNat : Int), .slice ao n c, .int .i64 an, .int .i64 keep, .int .i64 bit] 41 (0, 0)) := heap_alloc_new w _
set_option maxRecDepth 100000 in
set_option maxHeartbeats 4000000 in
theorem diskPlays_walk (room : Int) (co : Option Addr) (e : Nat) (zs : List Act) (w : World) (hr : -9223372036854775808 ≤ room ∧ room ≤ 9223372036854775807) (hc : RowOf w co 5 (ActIs w) zs) (hz : zs.length ≤ 9223372036854775807) :
    Calls Try.prog 5 #[.int .i64 room, .slice co zs.length e] w fun e w' => e = .returned (.bool true) ∧ Below w.heap.size w w' := by
  have HZ := Lib.hid hc; clear hc
  by_cases h1 : room < 0 ∨ 16777216 < room
  · go_enter Try.func5, Try.ntmps5
    rcases h1 with h1 | h1
    all_goals
      go_wp2_with (first
        | (go_at_call 7; refine (awake _).mono ?_; rintro e w1 ⟨rfl, hb⟩; have HB1 := Lib.hid hb; clear hb)
        | (go_at_call 8; refine (new_bad room _ (by omega)).mono ?_; rintro e w2 ⟨rfl, rfl⟩))
      go_ret
      exact ⟨rfl, HB1.out⟩
  · have h2 : 0 ≤ room ∧ room ≤ 16777216 := by omega
    obtain ⟨h3, h4⟩ := h2
    go_enter Try.func5, Try.ntmps5
    go_upto_block 0 with (first
      | (go_at_call 7; refine (awake _).mono ?_; rintro e w1 ⟨rfl, hb⟩; have HB1 := Lib.hid hb; clear hb)
      | (go_at_call 8; refine (new_any room _ ⟨h3, h4⟩).mono ?_; rintro e w2 ⟨rfl, hb2, hm⟩; have HM2 := Lib.hid (show MineF 48 w w2 w1.heap.size ⟨room.toNat, 0, []⟩ [w1.heap.size] from ⟨hm, fun k hk => by (simp at hk; subst hk; exact HB1.out.size), HB1.out.trans (hb2.mono HB1.out.size)⟩); clear hm hb2))
    have hp3 : Pair w (w2.alloc (.cells #[.int .i64 room, .int .i64 0, .slice none 0 0] 39)) w1.heap.size w2.heap.size ⟨room.toNat, 0, []⟩ [w1.heap.size] [w2.heap.size] := by
      refine ⟨HM2.out.alloc _, ⟨⟨none, 0, ?_, Own.nil' _ _, by simp, rfl, by simp, by simp, by simp; omega⟩, fun k hk => by simp at hk; subst hk; exact HM2.out.below.size, (HM2.out.alloc _).below⟩, fun k hk hk2 => ?_⟩
      · have := heap_alloc_new w2 (.cells #[.int .i64 room, .int .i64 0, .slice none 0 0] 39)
        rw [this]
        simp [Dsk.cells]
        omega
      · simp at hk hk2
        have := HM2.out.is.lt w1.heap.size (by simp)
        omega
    have HP3 := Lib.hid hp3
    clear hp3
    generalize w1.heap.size = p at *
    generalize w2.heap.size = q at *
    go_cut [] (fun wx => ∃ dd F G, Pair w wx p q dd F G)
    case first =>
      go_wp2_with fail
      go_loopg [41] zs.length (fun g i wr => ∃ (k : Nat) (dd : Dsk) (F G : List Nat), g + k = zs.length ∧ i = .int .i64 k ∧ Pair w wr p q dd F G)
      case atStart => exact ⟨0, _, _, _, by omega, rfl, HP3.out⟩
      case round =>
        obtain ⟨k, dd, F, G, hk, rfl, hp⟩ := hrel
        obtain ⟨K0, rfl⟩ : ∃ K0, K0 = gk := ⟨_, rfl⟩
        have HP := Lib.hid hp
        clear hp
        by_cases hlt : k < zs.length
        · obtain ⟨zb, zoff, rfl, hz1⟩ := HZ.out (by omega)
          obtain ⟨es, hes, hpr, hcell⟩ := hz1 k hlt
          obtain ⟨⟨ao, ac, rfl, hab⟩, hN, hK, hB⟩ := hpr
          have hbw := HP.out.a.below
          have c0 := (Chg.of_below hbw (fun _ => False)).cell (hcell 0 _ rfl) (fun h => h)
          have c1 := (Chg.of_below hbw (fun _ => False)).cell (hcell 1 _ rfl) (fun h => h)
          have c2 := (Chg.of_below hbw (fun _ => False)).cell (hcell 2 _ rfl) (fun h => h)
          have c3 := (Chg.of_below hbw (fun _ => False)).cell (hcell 3 _ rfl) (fun h => h)
          have c4 := (Chg.of_below hbw (fun _ => False)).cell (hcell 4 _ rfl) (fun h => h)
          clear hcell hz1 hbw
          simp only [Nat.add_zero] at c0
          have HAB := Lib.hid hab
          have HN := Lib.hid hN
          have HK := Lib.hid hK
          clear hab hN hK hB
          generalize zs[k].kind = kind at *
          generalize zs[k].bs = ys at *
          generalize zs[k].n = an at *
          generalize zs[k].keep = keep at *
          generalize zs[k].bit = bit at *
          by_cases h60 : 60 < k
          · have HPX := Lib.hid (HP.out.more ((Below.refl _ wr).alloc (Nat.le_refl _) (.cells #[.int .u8 (kind.toNat : Int), .slice ao ys.length ac, .int .i64 an, .int .i64 keep, .int .i64 bit] 41)))
            go_wp2
            go_meet
            exact ⟨_, _, _, HPX.out⟩
          · by_cases h500 : 500 < ys.length
            · have HPX := Lib.hid (HP.out.more ((Below.refl _ wr).alloc (Nat.le_refl _) (.cells #[.int .u8 (kind.toNat : Int), .slice ao ys.length ac, .int .i64 an, .int .i64 keep, .int .i64 bit] 41)))
              go_wp2
              go_meet
              exact ⟨_, _, _, HPX.out⟩
            · go_upto_block 2 with fail
              have hw := wr_act wr kind ao ys.length ac an keep bit
              have hpa := HP.out.more ((Below.refl _ wr).alloc (Nat.le_refl _) (.cells #[.int .u8 (kind.toNat : Int), .slice ao ys.length ac, .int .i64 an, .int .i64 keep, .int .i64 bit] 41))
              have hTF : ∀ k ∈ F, k ≠ wr.heap.size := fun k hk => Nat.ne_of_lt (HP.out.a.is.lt k hk)
              have hTG : ∀ k ∈ G, k ≠ wr.heap.size := fun k hk => Nat.ne_of_lt (HP.out.b.is.lt k hk)
              generalize wr.alloc (.cells #[.int .u8 (kind.toNat : Int), .slice ao ys.length ac, .int .i64 an, .int .i64 keep, .int .i64 bit] 41) = wa at *
              generalize wr.heap.size = T at *
              have k0 := heap_cell hw 0
              have k1 := heap_cell hw 1
              have k2 := heap_cell hw 2
              have k3 := heap_cell hw 3
              have k4 := heap_cell hw 4
              simp at k0 k1 k2 k3 k4
              have hTl := heap_lt hw
              have HW := Lib.hid hw
              have HPA := Lib.hid hpa
              have HTF := Lib.hid hTF
              have HTG := Lib.hid hTG
              clear hw hpa hTF hTG c0 c1 c2 c3 c4
              go_cut [] (fun wx => ∃ d' F' G', Pair w wx p q d' F' G')
              case first =>
                have hkd : ((kind.toNat : Int) % 5 = 0 ∨ (kind.toNat : Int) % 5 = 1) ∨ (kind.toNat : Int) % 5 = 2 ∨ (kind.toNat : Int) % 5 = 3 ∨ (kind.toNat : Int) % 5 = 4 := by omega
                generalize (kind.toNat : Int) % 5 = kd at *
                rcases hkd with hkd | rfl | rfl | rfl
                · have hys : ys.length ≤ 500 := by omega
                  rcases hkd with rfl | rfl
                  all_goals
                    go_wp2_with (first
                      | (at_builtin; refine wpList_append' rfl (.tmp 72) (.tmp 74) el_u8 rfl rfl rfl (Own.alloc0 _ 1 _ _) (by simp) ((HAB.out.below HPA.out.a.below).below ((Below.refl _ _).alloc (Nat.le_refl _) _)) (one_cb ys) (by unfold maxLen; omega) (by omega) ?_; intro so sc w4 hx hch _ hx2; simp only [Nat.zero_add, List.nil_append] at hx; have hb4 := chg_new (Below.refl _ _) hch; have HO4 := Lib.hid hx; have HC4 := Lib.hid hb4; have HX4 := Lib.hid (new_blk (Below.refl _ _) hx2); have HP4 := Lib.hid (HPA.out.more hb4); have HW4 := Lib.hid ((Chg.of_below hb4 (fun _ => False)).heap HW.out (fun h => h)); clear hx hch hx2 hb4)
                      | (go_at_call 9; (with_reducible refine (append_any _ _ _ _ _ _ ys _ HP4.out.a.is rfl HO4.out.bts).mono ?_); rintro e w5 ⟨rfl, hn⟩; obtain ⟨F5, hm5, hc5, hg5⟩ := HP4.out.a.step hn; have HM5 := Lib.hid hm5; have HG5 := Lib.hid (HP4.out.b.keep hc5 (fun k hk hkF => HP4.out.apart k hkF hk) HP4.out.a.own); have HA5 := Lib.hid (apart_step HP4.out.apart hg5 HP4.out.b.is.lt); have HO5 := Lib.hid (HO4.out.keep hc5 (fun a ha hf => by have h1 := HPA.out.a.is.lt _ hf; have h2 := HX4.out a ha; omega)); have HS5 := Lib.hid (show ∀ a, so = some a → a.block ∉ F5 ∧ a.block ∉ G ∧ w.heap.size ≤ a.block from fun a ha => ⟨fun hf => (hg5 _ hf).elim (fun h => by have h1 := HPA.out.a.is.lt _ h; have h2 := HX4.out a ha; omega) (fun h => by have := (HO4.out.at_ a ha).2.1; omega), fun hf => by (have h1 := HPA.out.b.is.lt _ hf; have h2 := HX4.out a ha; omega), Nat.le_trans HPA.out.a.below.size (HX4.out a ha)⟩); have HW5 := Lib.hid (hc5.heap HW4.out (fun hf => HTF.out _ hf rfl)); have q1 := heap_cell HW5.out 1; simp at q1; clear hn hm5 hc5 hg5))
                    go_loopg [81] ys.length (fun g i wx => ∃ (j : Nat) (l : List UInt8), g + j = ys.length ∧ i = .int .i64 j ∧ l.length = ys.length ∧ Own wx 1 so ys.length sc (l.map cb) ∧ MineF 48 w wx p (dd.append ys).2 F5 ∧ MineF 39 w wx q dd G ∧
                      wx.cell? ⟨T, 1, none⟩ = some (.slice ao ys.length ac))
                    case atStart => exact ⟨0, ys, by omega, rfl, rfl, HO5.out, HM5.out, HG5.out, q1⟩
                    case round =>
                      obtain ⟨j, l, hj, rfl, hll, hown, hma, hmb, hct⟩ := hrel
                      by_cases hjn : j < ys.length
                      · obtain ⟨sb, soff, rfl, _⟩ := hown.row (by intro q; have := congrArg List.length q; rw [List.length_map, hll, List.length_nil] at this; omega)
                        obtain ⟨x, ex, d1, d2⟩ := own_at hown (k := j) (by omega)
                        have HR := Lib.hid (And.intro hll (And.intro hown (And.intro hma (And.intro hmb (And.intro hct ex)))))
                        clear hll hown hma hmb hct ex q1
                        go_wp2
                        go_roundg (gk - 1)
                        case measure => omega
                        case rel =>
                          obtain ⟨hll, hown, hma, hmb, hct, ex⟩ := HR.out
                          obtain ⟨s1, s2, s3⟩ := HS5.out _ rfl
                          refine ⟨j + 1, l.set j (x ^^^ 255), by omega, by go_num, by rw [List.length_set]; exact hll, ?_, ?_, ?_, ?_⟩
                          · have h1 := hown.set j (cb (x ^^^ 255)) (by omega)
                            have hi : j < l.length := by omega
                            rw [List.getElem?_eq_getElem hi] at ex
                            rw [List.map_set, show (255 : Int) = (((255 : UInt8).toNat : Nat) : Int) from rfl, xor8]
                            exact h1
                          · exact hma.keep (Chg.one _ _ _ _) (fun k hk e => s1 (e ▸ hk)) (by rintro k rfl; exact s3)
                          · exact hmb.keep (Chg.one _ _ _ _) (fun k hk e => s2 (e ▸ hk)) (by rintro k rfl; exact s3)
                          · have hs : wa.heap.size ≤ sb := HX4.out _ rfl
                            exact (Chg.one _ _ _ _).cell hct (fun e => by have e' : T = sb := e; omega)
                      · go_wp2_with (go_at_call 14; (with_reducible refine (rappend_any _ _ _ _ _ _ ys _ hmb.is rfl (HAB.out.below hma.below) (by omega)).mono ?_); rintro e w6 ⟨rfl, hn⟩; have HN := Lib.hid hn; clear hn)
                        go_meet
                        exact Pair.close hma hmb HA5.out HN.out
                · go_wp2_with (first
                      | (go_at_call 10; (with_reducible refine (sync_any _ _ _ _ HPA.out.a.is).mono ?_); rintro e w4 ⟨rfl, hn⟩; obtain ⟨F4, hm4, hc4, hg4⟩ := HPA.out.a.step hn; have hq4 := HPA.out.b.keep hc4 (fun k hk hkF => HPA.out.apart k hkF hk) HPA.out.a.own; have HM4 := Lib.hid hm4; have HA4 := Lib.hid (apart_step HPA.out.apart hg4 HPA.out.b.is.lt); obtain ⟨ao4, cap4, h41, h42, h43, h44, h45⟩ := hq4.is; obtain ⟨z0, z1, z2, z3, z4⟩ := dcell h41; have HQ4 := Lib.hid hq4; have H4 := Lib.hid (And.intro h41 (And.intro h42 (And.intro h43 (And.intro h44 h45)))); clear hn hm4 hc4 hg4 hq4 h41 h42 h43 h44 h45))
                  go_meet
                  obtain ⟨h41, h42, h43, rfl, h45⟩ := H4.out
                  exact Pair.close (d' := { dd with sure := dd.b.length }) HM4.out HQ4.out HA4.out (disk_now h41 h43 (xo := ao4) (xc := cap4) (by rw [heap_set h41]; rfl) (h42.keep (Chg.one _ _ _ _) h43) (fun a h => .inl h) ⟨h45.len, Nat.le_refl _, h45.room⟩ (Chg.set (Chg.refl _ _) (.inl rfl) _ _))
                · go_upto_region 31 with fail
                  have HPD := Lib.hid (HPA.out.more ((Below.refl _ wa).drew))
                  have HWD := Lib.hid (show wa.drew.heap[T]? = _ from HW.out)
                  go_region_with (first
                      | (go_at_call 15; (with_reducible refine (cut_any _ _ _ _ _ HPD.out.a.is).mono ?_); rintro e w4 ⟨rfl, hn⟩; obtain ⟨F4, hm4, hc4, hg4⟩ := HPD.out.a.step hn; have hq4 := HPD.out.b.keep hc4 (fun k hk hkF => HPD.out.apart k hkF hk) HPD.out.a.own; have HM4 := Lib.hid hm4; have HA4 := Lib.hid (apart_step HPD.out.apart hg4 HPD.out.b.is.lt); have HQ4 := Lib.hid hq4; have hw4 := hc4.heap HWD.out (fun hf => HTF.out _ hf rfl); have z2 := heap_cell hw4 2; simp at z2; clear hn hm4 hc4 hg4 hq4 hw4)
                      | (go_at_call 16; (with_reducible refine (rcut_any _ _ _ _ _ HQ4.out.is).mono ?_); rintro e w5 ⟨rfl, hn⟩; have HN5 := Lib.hid hn; clear hn))
                  go_wp2
                  all_goals (go_meet; exact Pair.close HM4.out HQ4.out HA4.out HN5.out)
                · go_wp2_with (first
                      | (go_at_call 11; (with_reducible refine (crash_any _ _ _ _ _ _ HPA.out.a.is HK.out).mono ?_); rintro e w4 ⟨rfl, hn⟩; obtain ⟨F4, hm4, hc4, hg4⟩ := HPA.out.a.step hn; have hq4 := HPA.out.b.keep hc4 (fun k hk hkF => HPA.out.apart k hkF hk) HPA.out.a.own; have HM4 := Lib.hid hm4; have HA4 := Lib.hid (apart_step HPA.out.apart hg4 HPA.out.b.is.lt); have HQ4 := Lib.hid hq4; have hw4 := hc4.heap HW.out (fun hf => HTF.out _ hf rfl); have z3 := heap_cell hw4 3; have z4 := heap_cell hw4 4; simp at z3 z4; clear hn hm4 hc4 hg4 hq4 hw4)
                      | (go_at_call 17; (with_reducible refine (rcrash_any _ _ _ _ _ _ HQ4.out.is).mono ?_); rintro e w5 ⟨rfl, hn⟩; have HN5 := Lib.hid hn; clear hn))
                  go_meet
                  exact Pair.close HM4.out HQ4.out HA4.out HN5.out
              case rest =>
                obtain ⟨d', F', G', hp'⟩ := hcut
                have HP5 := Lib.hid hp'
                clear hp'
                go_wp2_with (go_at_call 12; (with_reducible refine (bytes_any _ _ _ _ HP5.out.a.is).mono ?_); rintro e w7 ⟨po, cap, rfl, hb7, ho, hx⟩; have HP7 := Lib.hid (HP5.out.more hb7); have HO := Lib.hid ho; have HB7 := Lib.hid (Nat.le_trans HP5.out.a.below.size hb7.size); have HX7 := Lib.hid (show ∀ a, po = some a → a.block ∉ F' ∧ a.block ∉ G' ∧ w.heap.size ≤ a.block from fun a ha => ⟨fun hf => by (have h1 := HP5.out.a.is.lt _ hf; have h2 := hx a ha; omega), fun hf => by (have h1 := HP5.out.b.is.lt _ hf; have h2 := hx a ha; omega), Nat.le_trans HP5.out.a.below.size (hx a ha)⟩); clear hb7 ho hx)
                have hlen := HP7.out.a.is.len
                obtain ⟨bo7, cap7, h71, h72, h73, rfl, h75⟩ := HP7.out.b.is
                obtain ⟨z0, z1, z2, z3, z4⟩ := dcell h71
                have ks1 := fun m => conv_bytes (w7.drewN m) Try.underlying22 Try.underlying5 Try.underlying9 po d'.b.length cap d'.b rfl (HO.out.bts.drewN m)
                have ks2 := fun m => conv_bytes (w7.drewN m) Try.underlying22 Try.underlying5 Try.underlying9 bo7 d'.b.length cap7 d'.b rfl (h72.bts.drewN m)
                have hs := Lib.hid (fun m => sure_mine (Mine.drewN HP7.out.a.mine m))
                clear h71 h72 h73 h75
                go_quiet ((go_at_call 13; exact Calls.quiet_of_same ((hs.out _).mono fun _ _ h => ⟨h.1, h.2.symm⟩)))
                go_wp2
                have HP8 := Lib.hid (HP7.out.more (below_drewN (Below.refl _ w7) nq))
                have HO8 := Lib.hid (HO.out.drewN nq)
                clear ks1 ks2 z0 z1 z2 z3 z4
                generalize w7.drewN nq = w8 at *
                go_loopg [141] d'.b.length (fun g i wx => ∃ (j : Nat) (l : List UInt8), g + j = d'.b.length ∧ i = .int .i64 j ∧ l.length = d'.b.length ∧ Own wx 1 po d'.b.length cap (l.map cb) ∧ Pair w wx p q d' F' (q :: (bo7.map (·.block)).toList))
                case atStart => exact ⟨0, d'.b, by omega, rfl, rfl, HO8.out, HP8.out⟩
                case round =>
                  obtain ⟨j, l, hj, rfl, hll, hown, hpr⟩ := hrel
                  by_cases hjn : j < d'.b.length
                  · obtain ⟨sb, soff, rfl, _⟩ := hown.row (by intro q; have := congrArg List.length q; rw [List.length_map, hll, List.length_nil] at this; omega)
                    obtain ⟨x, ex, d1, d2⟩ := own_at hown (k := j) (by omega)
                    have HR := Lib.hid (And.intro hll (And.intro hown (And.intro hpr ex)))
                    clear hll hown hpr ex
                    go_wp2
                    go_roundg (gk - 1)
                    case measure => omega
                    case rel =>
                      obtain ⟨hll, hown, hpr, ex⟩ := HR.out
                      obtain ⟨s1, s2, s3⟩ := HX7.out _ rfl
                      refine ⟨j + 1, l.set j (x ^^^ 255), by omega, by go_num, by rw [List.length_set]; exact hll, ?_, ?_⟩
                      · have h1 := hown.set j (cb (x ^^^ 255)) (by omega)
                        have hi : j < l.length := by omega
                        rw [List.getElem?_eq_getElem hi] at ex
                        rw [List.map_set, show (255 : Int) = (((255 : UInt8).toNat : Nat) : Int) from rfl, xor8]
                        exact h1
                      · exact hpr.keep (Chg.one _ _ _ _) (fun k hk e => s1 (e ▸ hk)) (fun k hk e => s2 (e ▸ hk)) (by rintro k rfl; exact s3)
                  · have HR := Lib.hid hpr
                    clear hll hown hpr
                    go_wp2
                    go_roundg (K0 - 1)
                    case measure => omega
                    case rel => exact ⟨k + 1, d', F', _, by omega, by go_num, HR.out⟩
        · go_wp2
          go_meet
          exact ⟨_, _, _, HP.out⟩
    case rest =>
      obtain ⟨dd, F, G, hpc⟩ := hcut
      have HPX := Lib.hid hpc
      clear hpc
      go_wp2
      have HPD := Lib.hid (HPX.out.more (Below.refl _ wc).drew)
      have HBB := Lib.hid HPX.out.a.below
      have hlen := HPD.out.a.is.len
      obtain ⟨bo7, cap7, h71, h72, h73, hG7, h75⟩ := HPD.out.b.is
      obtain ⟨z0, z1, z2, z3, z4⟩ := dcell h71
      have ks2 := conv_bytes wc.drew Try.underlying22 Try.underlying5 Try.underlying9 bo7 dd.b.length cap7 dd.b rfl h72.bts
      have HQ7 := Lib.hid (And.intro h71 h72)
      clear h71 h72 h73 h75 hG7
      go_region_with (go_at_call 12; (with_reducible refine (bytes_any _ _ _ _ HPD.out.a.is).mono ?_); rintro e w7 ⟨po, cap, rfl, hb7, ho, _⟩; have hq7 := (Chg.of_below hb7 (fun _ => False)).heap HQ7.out.1 (fun h => h); obtain ⟨_, _, y2, _, _⟩ := dcell hq7; have ks1 := conv_bytes w7 Try.underlying22 Try.underlying5 Try.underlying9 po dd.b.length cap dd.b rfl ho.bts; have ks3 := conv_bytes w7 Try.underlying22 Try.underlying5 Try.underlying9 bo7 dd.b.length cap7 dd.b rfl (HQ7.out.2.bts.below hb7); have HB9 := Lib.hid (HPD.out.a.below.trans (hb7.mono HPD.out.a.below.size)); clear hb7 ho hq7)
      go_wp2
      all_goals (go_ret; exact ⟨rfl, HB9.out⟩)
theorem diskPlays_in (W : World) (base : Nat) (v0 v1 : Value) (k0 : Value.okWide Try.prog W .any base 3 v0) (k1 : Value.okWide Try.prog W .any base 36 v1)
    (r0 : Rd Try.prog W 3 v0.cells.toList) (r1 : Rd Try.prog W 36 v1.cells.toList) :
    Calls Try.prog 5 #[v0, v1] W fun e w' => e = .returned (.bool true) ∧ Below W.heap.size W w' := by
  obtain ⟨n, rfl, h1, h2⟩ := in_i64 Try.underlying3 k0 r0
  obtain ⟨co, zs, e, rfl, hc, hl, hm⟩ := in_slice Try.underlying36 (size := 5) (by kernel_rfl) (by decide) (ActIs W) (fun es h => act_rd h) k1 r1
  exact diskPlays_walk _ _ _ _ _ ⟨h1, h2⟩ hc (by unfold maxLen at hm; omega)
end Go.Proofs.Ytmbmahkdhpfahaa
