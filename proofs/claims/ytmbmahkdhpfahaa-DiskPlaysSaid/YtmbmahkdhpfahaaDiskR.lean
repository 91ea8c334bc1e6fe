/-
  LAYER 4: the document's disk, by its contracts; a nil disk.
-/
import Derived.Test.YtmbmahkdhpfahaaDisk
import Derived.Deep.RegionLaw
namespace Go.Proofs.Ytmbmahkdhpfahaa
open Go Go.RowKit

theorem rappend_any (p : Nat) (d : Dsk) (F : List Nat) (bo : Option Addr) (n c : Nat) (ys : List UInt8) (w : World) (h : DiskAt 39 w p d F) (hl : ys.length = n) (hb : Bts w bo ys) (hn0 : n ≤ 140737488351232) :
    Calls Try.prog 14 #[.pointer (some ⟨p, 0, none⟩), .slice bo n c] w (DiskPost 39 w p F (d.append ys).1 (d.append ys).2) := by
  have HA := Lib.hid h
  obtain ⟨ao, cap, h1, h2, h3, rfl, h5⟩ := h
  obtain ⟨c0, c1, c2, f1, f2⟩ := dcell h1
  have hr := h5.room
  have hlr := h5.len
  have HB := Lib.hid hb
  have HL := Lib.hid hl
  have H := Lib.hid (And.intro h1 (And.intro h2 (And.intro h3 h5)))
  clear h1 h2 h3 h5 hb hl
  by_cases hn : d.room < d.b.length + n
  · go_enter Try.func14, Try.ntmps14
    go_wp2
    go_quiet (fail)
    go_wp2
    go_ret
    have e : d.append ys = (8, d) := by rw [Dsk.append, if_pos (by rw [HL.out]; omega)]
    rw [e]
    exact ⟨rfl, _, HA.out.drewN _, (Chg.refl _ _).drewN _, Grew.refl _ _⟩
  · have hn' : d.b.length + n ≤ d.room := by omega
    have hpl : p < w.heap.size := heap_lt H.out.1
    go_enter Try.func14, Try.ntmps14
    go_wp2
    go_quiet (fail)
    have hq := Lib.hid ((Chg.refl (fun _ => False) w).drewN nq)
    have HB' := Lib.hid (HB.out.drewN nq)
    have HO0 := Lib.hid (H.out.2.1.drewN nq)
    have hp0 := hq.out.heap H.out.1 (fun h => h)
    obtain ⟨_, _, k2, _, _⟩ := dcell hp0
    have hpl : p < (w.drewN nq).heap.size := heap_lt hp0
    have HP0 := Lib.hid hp0
    clear hp0
    generalize w.drewN nq = wq at *
    go_wp2_with (first
      | (at_builtin; refine wpList_append' rfl (.tmp 19) (.tmp 23) el_u8 rfl rfl rfl (Own.alloc0 _ 1 _ _) (by rw [List.length_map, Nat.mul_one]) (HO0.out.bts.below ((Below.refl _ _).alloc (Nat.le_refl _) _)) (one_cb d.b) (by unfold maxLen; omega) (by omega) ?_; intro xo xc w2 hx hch _ hx2; simp only [Nat.zero_add, List.nil_append] at hx; have HO := Lib.hid hx; have HC2 := Lib.hid (chg_new (Below.refl _ _) hch); have HX2 := Lib.hid (new_blk (Below.refl _ _) hx2); clear hx hch hx2)
      | (at_builtin; refine wpList_append' rfl (.tmp 24) (.tmp 25) el_u8 rfl rfl rfl HO.out (by rw [List.length_map, HL.out, Nat.mul_one]) (HB'.out.below HC2.out) (one_cb ys) (by unfold maxLen; omega) (by omega) ?_; intro yo yc w3 hx hch _ hx2; have hb3 := chg_on HC2.out hch HC2.out.size HX2.out; have hp : w3.heap[p]? = some (.cells (d.cells ao cap) 39 (0, 0)) := (Chg.of_below hb3 (fun _ => False)).heap HP0.out (fun h => h); obtain ⟨_, _, g2, _, g3⟩ := dcell hp; have HP := Lib.hid hp; have HB3 := Lib.hid hb3; have HO2 := Lib.hid hx; have HX3 := Lib.hid (show ∀ a, yo = some a → wq.heap.size ≤ a.block from fun a h => (hx2 a h).elim (fun e => HX2.out a e) (fun e => Nat.le_trans HC2.out.size e)); clear hx hch hx2 hp hb3))
    go_ret
    have e : d.append ys = (0, { d with b := d.b ++ ys }) := by rw [Dsk.append, if_neg (by rw [HL.out]; omega)]
    rw [e]
    have hlen : (d.b ++ ys).length = d.b.length + n := by rw [List.length_append, HL.out]
    have hpx : ∀ a, yo = some a → a.block ≠ p := by
      intro a ha
      have h1 : wq.heap.size ≤ a.block := HX3.out a ha
      omega
    refine ⟨rfl, disk_now H.out.1 H.out.2.2.1 (xo := yo) (xc := yc) ?_ ?_ (fun a h => .inr (Nat.le_trans hq.out.size (HX3.out a h))) ⟨by show (d.b ++ ys).length ≤ d.room; rw [hlen]; exact hn', by show d.sure ≤ (d.b ++ ys).length; rw [hlen]; have := H.out.2.2.2.sure; omega, H.out.2.2.2.room⟩ (Chg.set ((hq.out.to (fun _ h => h.elim)).trans (Chg.of_below HB3.out (fun _ => False)) (fun _ _ h => h.elim)) (.inl rfl) _ _)⟩
    · rw [heap_set HP.out 2 _]; simp [Dsk.cells, hlen]
    · show Own _ 1 yo (d.b ++ ys).length yc ((d.b ++ ys).map cb)
      rw [hlen, List.map_append]
      exact HO2.out.keep (Chg.one _ _ _ _) hpx
theorem rcut_any (p : Nat) (d : Dsk) (F : List Nat) (n : Int) (w : World) (h : DiskAt 39 w p d F) :
    Calls Try.prog 16 #[.pointer (some ⟨p, 0, none⟩), .int .i64 n] w fun e w' => e = .returned (.int .i64 (d.cut n).1) ∧ DiskNow 39 w p F (d.cut n).2 w' := by
  have HA := Lib.hid h
  obtain ⟨ao, cap, h1, h2, h3, rfl, h5⟩ := h
  obtain ⟨c0, c1, c2, f1, f2⟩ := dcell h1
  have H := Lib.hid (And.intro h1 (And.intro h2 (And.intro h3 h5)))
  have hcap := h2.le
  clear h1 h2 h3 h5
  by_cases hn : n < 0
  · go_enter Try.func16, Try.ntmps16
    go_wp2
    go_ret
    have e : d.cut n = (2, d) := by rw [Dsk.cut, if_pos (.inl hn)]
    rw [e]
    exact ⟨rfl, _, HA.out, Chg.refl _ _, Grew.refl _ _⟩
  by_cases hn' : (d.b.length : Int) < n
  · go_enter Try.func16, Try.ntmps16
    go_wp2
    go_ret
    have e : d.cut n = (2, d) := by rw [Dsk.cut, if_pos (.inr hn')]
    rw [e]
    exact ⟨rfl, _, HA.out, Chg.refl _ _, Grew.refl _ _⟩
  · obtain ⟨m, rfl⟩ : ∃ m : Nat, n = (m : Int) := ⟨n.toNat, by omega⟩
    have hm : m ≤ d.b.length := by omega
    go_enter Try.func16, Try.ntmps16
    go_wp2
    · go_ret
      have hgt : m < d.sure := by assumption
      have e : d.cut (m : Int) = (0, ⟨d.room, m, d.b.take m⟩) := by rw [Dsk.cut, if_neg (by omega)]; simp; omega
      have hl : (d.b.take m).length = m := by rw [List.length_take]; omega
      rw [e]
      refine ⟨rfl, disk_now H.out.1 H.out.2.2.1 (xo := ao) (xc := cap) ?_ ?_ (fun a h => .inl h) ⟨by show (d.b.take m).length ≤ d.room; rw [hl]; have := H.out.2.2.2.len; omega, by show m ≤ (d.b.take m).length; rw [hl]; exact Nat.le_refl _, H.out.2.2.2.room⟩ (Chg.set (Chg.set (Chg.refl _ _) (.inl rfl) _ _) (.inl rfl) _ _)⟩
      · refine (heap_set (heap_set H.out.1 _ _) _ _).trans ?_
        simp only [Dsk.cells, hl]
        simp
      · show Own _ 1 ao (d.b.take m).length cap ((d.b.take m).map cb)
        rw [hl, List.map_take]
        have h1 := H.out.2.1.cut (m := m) (c := cap) (by omega) hm (Nat.le_refl _)
        rw [Nat.mul_one] at h1
        exact ((h1.keep (Chg.one _ p 2 _) H.out.2.2.1).keep (Chg.one _ p 1 _) H.out.2.2.1)
    · go_ret
      have hgt : d.sure ≤ m := by first | assumption | (have : ¬ m < d.sure := by assumption; omega) | omega
      have e : d.cut (m : Int) = (0, ⟨d.room, d.sure, d.b.take m⟩) := by rw [Dsk.cut, if_neg (by omega)]; simp; omega
      have hl : (d.b.take m).length = m := by rw [List.length_take]; omega
      rw [e]
      refine ⟨rfl, disk_now H.out.1 H.out.2.2.1 (xo := ao) (xc := cap) ?_ ?_ (fun a h => .inl h) ⟨by show (d.b.take m).length ≤ d.room; rw [hl]; have := H.out.2.2.2.len; omega, by show d.sure ≤ (d.b.take m).length; rw [hl]; exact hgt, H.out.2.2.2.room⟩ (Chg.set (Chg.refl _ _) (.inl rfl) _ _)⟩
      · refine (heap_set H.out.1 _ _).trans ?_
        simp only [Dsk.cells, hl]
        simp
      · show Own _ 1 ao (d.b.take m).length cap ((d.b.take m).map cb)
        rw [hl, List.map_take]
        have h1 := H.out.2.1.cut (m := m) (c := cap) (by omega) hm (Nat.le_refl _)
        rw [Nat.mul_one] at h1
        exact (h1.keep (Chg.one _ p 2 _) H.out.2.2.1)

theorem rcrash_any (p : Nat) (d : Dsk) (F : List Nat) (keep bit : Int) (w : World) (h : DiskAt 39 w p d F) :
    Calls Try.prog 17 #[.pointer (some ⟨p, 0, none⟩), .int .i64 keep, .int .i64 bit] w fun e w' => e = .returned (.tuple #[]) ∧ DiskNow 39 w p F (d.crash keep bit) w' := by
  have HA := Lib.hid h
  obtain ⟨ao, cap, h1, h2, h3, rfl, h5⟩ := h
  obtain ⟨c0, c1, c2, f1, f2⟩ := dcell h1
  have H := Lib.hid (And.intro h1 (And.intro h2 (And.intro h3 h5)))
  have hcap := h2.le
  have hsure := h5.sure
  have hlen := h5.len
  have hroom := h5.room
  clear h1 h2 h3 h5
  go_enter Try.func17, Try.ntmps17
  go_wp2
  go_quiet (fail)
  have hq := Lib.hid ((Chg.refl (fun _ => False) w).drewN nq)
  have HO0 := Lib.hid (H.out.2.1.drewN nq)
  have hp0 := hq.out.heap H.out.1 (fun h => h)
  obtain ⟨k0, k1, k2, f1', f2'⟩ := dcell hp0
  have hpl : p < (w.drewN nq).heap.size := heap_lt hp0
  have HP0 := Lib.hid hp0
  clear hp0
  clear c0 c1 c2 f1 f2
  generalize w.drewN nq = wq at *
  go_upto_if 20 with fail
  go_cut [6] (fun s wx => s = .int .i64 (min keep ((d.b.length : Int) - d.sure)) ∧ wx = wq)
  case first =>
    go_wp2_with fail
    all_goals (go_meet; exact ⟨congrArg _ (by omega), rfl⟩)
  case rest =>
    obtain ⟨rfl, rfl⟩ := hcut
    go_upto_if 23 with fail
    go_cut [6] (fun s wx => s = .int .i64 ((max 0 (min keep ((d.b.length : Int) - d.sure))).toNat : Int) ∧ wx = wc)
    case first =>
      go_wp2_with fail
      all_goals (go_meet; exact ⟨congrArg _ (by omega), rfl⟩)
    case rest =>
      obtain ⟨rfl, rfl⟩ := hcut
      obtain ⟨m1, m2⟩ := d.upto_le keep hsure
      have HD := Lib.hid (show d.crash keep bit = ⟨d.room, d.upto keep, if d.sure < d.upto keep ∧ 0 ≤ bit ∧ bit < 8 then (d.b.take (d.upto keep)).modify (d.upto keep - 1) (· ^^^ UInt8.ofNat (2 ^ bit.toNat)) else d.b.take (d.upto keep)⟩ from rfl)
      rw [show d.upto keep = d.sure + (max 0 (min keep ((d.b.length : Int) - d.sure))).toNat from rfl] at HD m1 m2
      generalize (max 0 (min keep ((d.b.length : Int) - d.sure))).toNat = m at *
      go_wp2
      obtain ⟨wo, rfl⟩ : ∃ wo : World, wo = wc := ⟨_, rfl⟩
      go_upto_region 5 with fail
      go_cut [7] (fun s wx => ∃ xo xc, s = .slice xo (d.sure + m) xc ∧ Below wo.heap.size wo wx ∧ Own wx 1 xo (d.sure + m) xc ((d.b.take (d.sure + m)).map cb) ∧ ∀ a, xo = some a → wo.heap.size ≤ a.block)
      case first =>
        have hsz : d.sure + m ≤ 16777216 := by omega
        have E1 := IntWalk.i64_in ((d.sure : Int) + (m : Int)) (by omega)
        have E2 : (0 : Int) ≤ (d.sure : Int) + (m : Int) := by omega
        have E3 : ((d.sure : Int) + (m : Int)).toNat = d.sure + m := by omega
        have E4 : (d.sure : Int) + (m : Int) ≤ (cap : Int) := by omega
        have E5 : d.sure + m ≤ cap := by omega
        go_region_law (refine step_append' rfl (.tmp 24) (.tmp 35) el_u8 rfl rfl rfl (Own.alloc0 wo 1 _ _).drew (by simp; omega) (((HO0.out.bts.take (d.sure + m))).below ((Below.refl _ wo).alloc (Nat.le_refl _) _).drew) (one_cb _) (by unfold maxLen; omega) (by omega) ?_; intro xo xc w2 hx hch _ hx2; simp only [Nat.zero_add, List.nil_append] at hx; have HO := Lib.hid hx; have HC2 := Lib.hid (chg_new (Below.refl _ _) hch.undrew); have HX2 := Lib.hid (new_blk (Below.refl _ _) hx2); clear hx hch hx2)
        go_wp2_with fail
        all_goals (go_meet; exact ⟨xo, xc, rfl, HC2.out, HO.out, HX2.out⟩)
      case rest =>
        obtain ⟨xo, xc, rfl, hb, ho, hx⟩ := hcut
        have hp := (Chg.of_below hb (fun _ => False)).heap HP0.out (fun h => h)
        obtain ⟨_, g1, g2, g3, g4⟩ := dcell hp
        have hlm : (d.b.take (d.sure + m)).length = d.sure + m := by rw [List.length_take]; omega
        by_cases hc : d.sure < d.sure + m ∧ 0 ≤ bit ∧ bit < 8
        · obtain ⟨hc1, hc2, hc3⟩ := hc
          obtain ⟨j, rfl⟩ : ∃ j : Nat, bit = (j : Int) := ⟨bit.toNat, by omega⟩
          have hj : j < 8 := by omega
          have hq1 : d.sure + m - 1 < (d.b.take (d.sure + m)).length := by omega
          obtain ⟨xb, xoff, rfl, _⟩ := ho.row (by intro q; have := congrArg List.length q; rw [List.length_map, hlm, List.length_nil] at this; omega)
          have hpx : p < xb := Nat.lt_of_lt_of_le hpl (hx _ rfl)
          obtain ⟨v, ek, q1, q2⟩ := own_at (k := d.sure + m - 1) ho hq1
          have E := Lib.hid (And.intro hb (And.intro ho (And.intro hx (And.intro hp (And.intro hlm (And.intro hq1 ek))))))
          clear hb ho hx hp hlm hq1 ek k0 k1 k2 f1' f2'
          go_wp2
          go_region
          go_wp2
          go_end0
          obtain ⟨hb, ho, hx, hp, hlm, hq1, ek⟩ := E.out
          have hpx' : ∀ a, (some (⟨xb, xoff, none⟩ : Addr)) = some a → a.block ≠ p := by rintro a ⟨⟩; show xb ≠ p; omega
          rw [List.getElem?_eq_getElem hq1] at ek
          cases ek
          have hl2 : ((d.b.take (d.sure + m)).modify (d.sure + m - 1) (· ^^^ UInt8.ofNat (2 ^ j))).length = d.sure + m := by rw [List.length_modify]; exact hlm
          have hxs : wo.heap.size ≤ xb := hx _ rfl
          have hws : w.heap.size ≤ xb := Nat.le_trans hq.out.size hxs
          rw [HD.out, if_pos ⟨hc1, hc2, hc3⟩]
          refine ⟨rfl, disk_now H.out.1 H.out.2.2.1 (xo := some ⟨xb, xoff, none⟩) (xc := xc) ?_ ?_ (by rintro a ⟨⟩; exact .inr hws) ⟨by show List.length (List.modify _ _ _) ≤ d.room; rw [Int.toNat_natCast, hl2]; omega, by show d.sure + m ≤ List.length (List.modify _ _ _); rw [Int.toNat_natCast, hl2]; exact Nat.le_refl _, hroom⟩ ?_⟩
          · refine (heap_set (heap_set (heap_far hp (by show p ≠ xb; omega) _) _ _) _ _).trans ?_
            simp only [Dsk.cells, Int.toNat_natCast, hl2]
            simp
          · show Own _ 1 (some ⟨xb, xoff, none⟩) (List.length (List.modify _ _ _)) xc (List.map cb (List.modify _ _ _))
            rw [Int.toNat_natCast, hl2, modify_cells _ hq1, shl_bit j hj, xor8]
            exact ((((ho.set (d.sure + m - 1) (cb ((d.b.take (d.sure + m))[d.sure + m - 1] ^^^ UInt8.ofNat (2 ^ j))) (by omega)).keep (Chg.one _ p 2 _) hpx')).keep (Chg.one _ p 1 _) hpx').drew
          · exact (Chg.set (Chg.set (Chg.setCell ((hq.out.to (fun _ h => h.elim)).trans (Chg.of_below hb (fun _ => False)) (fun _ _ h => h.elim)) (fun h => absurd h (by show ¬ xb < w.heap.size; omega)) _) (.inl rfl) _ _) (.inl rfl) _ _).drew
        · have hc' : d.sure < d.sure + m → 0 ≤ bit → 8 ≤ bit := fun a b => by omega
          have E := Lib.hid (And.intro hb (And.intro ho (And.intro hx (And.intro hp hlm))))
          clear hb ho hx hp hlm k0 k1 k2 f1' f2'
          go_wp2
          all_goals
            go_end0
            obtain ⟨hb, ho, hx, hp, hlm⟩ := E.out
            have hpx : ∀ a, xo = some a → a.block ≠ p := by
              intro a ha
              have h1 : wo.heap.size ≤ a.block := hx a ha
              omega
            rw [HD.out, if_neg (by omega)]
            refine ⟨rfl, disk_now H.out.1 H.out.2.2.1 (xo := xo) (xc := xc) ?_ ?_ (fun a h => .inr (Nat.le_trans hq.out.size (hx a h))) ⟨by show (d.b.take (d.sure + m)).length ≤ d.room; rw [hlm]; omega, by show d.sure + m ≤ (d.b.take (d.sure + m)).length; rw [hlm]; exact Nat.le_refl _, hroom⟩ (Chg.set (Chg.set ((hq.out.to (fun _ h => h.elim)).trans (Chg.of_below hb (fun _ => False)) (fun _ _ h => h.elim)) (.inl rfl) _ _) (.inl rfl) _ _)⟩
            · refine (heap_set (heap_set hp _ _) _ _).trans ?_
              simp only [Dsk.cells, hlm]
              simp
            · show Own _ 1 xo (d.b.take (d.sure + m)).length xc ((d.b.take (d.sure + m)).map cb)
              rw [hlm]
              exact (ho.keep (Chg.one _ p 2 _) hpx).keep (Chg.one _ p 1 _) hpx
end Go.Proofs.Ytmbmahkdhpfahaa
