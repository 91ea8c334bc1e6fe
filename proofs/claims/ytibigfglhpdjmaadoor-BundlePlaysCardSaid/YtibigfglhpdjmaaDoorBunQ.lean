/-
  BundlePlays, walked.
-/
import Derived.Test.YtibigfglhpdjmaaDoorBunP
namespace Go.Proofs.YtibigfglhpdjmaaDoor
open Go Go.RowKit

structure Both (w0 w : World) (p q : Nat) (l F : List Nat) : Prop where
  map : MapIn w0 w p l F
  doc : DocAt w q l
  far : q ∉ F
  new : w0.heap.size ≤ q
theorem Both.stays {w0 w w' : World} {p q : Nat} {l F : List Nat} (h : Both w0 w p q l F) (hb : Below w.heap.size w w') : Both w0 w' p q l F :=
  ⟨h.map.stays hb, h.doc.stays hb, h.far, h.new⟩
theorem splitB (w0 w : World) (p q : Nat) (l l' F' : List Nat) (z : Int) (cc : Nat) (hs : SplitP l z cc l') (ho : Ok l) (hm : MapIn w0 w p l' F') (hd : DocAt w q l) (hf : q ∉ F') (hn : w0.heap.size ≤ q) :
    Calls Tryd.prog 19 #[.pointer (some ⟨q, 0, none⟩), .int .i64 z] w fun e w' => e = .returned (.int .i64 (cc : Int)) ∧ Both w0 w' p q l' F' := by
  cases hs with
  | out h =>
    refine (rsplit_out q z w h).mono ?_
    rintro e w' ⟨rfl, hb⟩
    exact ⟨rfl, hm.stays hb, hd.stays hb, hf, hn⟩
  | has k e h1 h2 h3 =>
    subst e
    refine (rsplit_has q l k w hd h1 h2 h3).mono ?_
    rintro e w' ⟨rfl, hb⟩
    exact ⟨rfl, hm.stays hb, hd.stays hb, hf, hn⟩
  | full k e h1 h2 h3 h4 =>
    subst e
    refine (rsplit_full q l k w hd ho h1 h2 h3 h4).mono ?_
    rintro e w' ⟨rfl, hb⟩
    exact ⟨rfl, hm.stays hb, hd.stays hb, hf, hn⟩
  | go k qq e h1 h2 h3 h4 h5 =>
    subst e
    refine (rsplit_go q l (putAt l qq k) k w hd ho h1 h2 h3 h4 (fun x => putAt_mem)).mono ?_
    rintro e w' ⟨rfl, h6, h7⟩
    exact ⟨rfl, ⟨hm.map.keep h7 (fun i hi e => hf (by rw [← e]; exact hi)), hm.new, hm.below.trans (h7.below hm.below.size (fun i e => by rw [e]; exact hn)), hm.ok⟩, h6, hf, hn⟩
theorem joinB (w0 w : World) (p q : Nat) (l l' F' : List Nat) (z : Int) (cc : Nat) (hs : JoinP l z cc l') (hm : MapIn w0 w p l' F') (hd : DocAt w q l) (hf : q ∉ F') (hn : w0.heap.size ≤ q) :
    Calls Tryd.prog 18 #[.pointer (some ⟨q, 0, none⟩), .int .i64 z] w fun e w' => e = .returned (.int .i64 (cc : Int)) ∧ Both w0 w' p q l' F' := by
  cases hs with
  | out h =>
    refine (rjoin_out q z w h).mono ?_
    rintro e w' ⟨rfl, hb⟩
    exact ⟨rfl, hm.stays hb, hd.stays hb, hf, hn⟩
  | none k e h1 h2 h3 =>
    subst e
    refine (rjoin_none q l k w hd h1 h2 h3).mono ?_
    rintro e w' ⟨rfl, hb⟩
    exact ⟨rfl, hm.stays hb, hd.stays hb, hf, hn⟩
  | go k e h1 h2 h3 =>
    subst e
    refine (rjoin_go q l k w hd h1 h2 h3).mono ?_
    rintro e w' ⟨rfl, h6, h7⟩
    exact ⟨rfl, ⟨hm.map.keep h7 (fun i hi e => hf (by rw [← e]; exact hi)), hm.new, hm.below.trans (h7.below hm.below.size (fun i e => by rw [e]; exact hn)), hm.ok⟩, h6, hf, hn⟩
def OfG (l : List Nat) (X A B : Int) (ok : Bool) : Prop := ((X < 0 ∨ 65535 < X) ∧ A = 0 ∧ B = 0 ∧ ok = false) ∨ ∃ z a b : Nat, X = (z : Int) ∧ z < 65536 ∧ A = (a : Int) ∧ B = (b : Int) ∧ ok = true ∧ OfP l z a b
theorem of_gen (w0 w : World) (p : Nat) (l F : List Nat) (X : Int) (h : MapIn w0 w p l F) :
    Calls Tryd.prog 15 #[.pointer (some ⟨p, 0, none⟩), .int .i64 X] w fun e w' => ∃ (A B : Int) (ok : Bool), e = .returned (.tuple #[.int .i64 A, .int .i64 B, .bool ok]) ∧ Below w.heap.size w w' ∧ OfG l X A B ok := by
  by_cases hX : X < 0 ∨ 65535 < X
  · refine (of_out _ X w (.inr hX)).mono ?_
    rintro e w' ⟨rfl, hb⟩
    exact ⟨0, 0, false, rfl, hb, .inl ⟨hX, rfl, rfl, rfl⟩⟩
  · obtain ⟨z, rfl⟩ : ∃ z : Nat, X = (z : Int) := ⟨X.toNat, by omega⟩
    refine (of_in w0 w p l F z h (by omega)).mono ?_
    rintro e w' ⟨a, b, rfl, hb, ho⟩
    exact ⟨a, b, true, rfl, hb, .inr ⟨z, a, b, rfl, by omega, rfl, rfl, rfl, ho⟩⟩
theorem rof_gen (w : World) (q : Nat) (l : List Nat) (X A B : Int) (ok : Bool) (hd : DocAt w q l) (ho : Ok l) (h : OfG l X A B ok) :
    Calls Tryd.prog 22 #[.pointer (some ⟨q, 0, none⟩), .int .i64 X] w fun e w' => e = .returned (.tuple #[.int .i64 A, .int .i64 B, .bool ok]) ∧ Below w.heap.size w w' := by
  rcases h with ⟨h, rfl, rfl, rfl⟩ | ⟨z, a, b, rfl, hz, rfl, rfl, rfl, h⟩
  · exact rof_out q X w h
  · exact rof_any q l z a b w hd ho hz h
def IntIs (z : Int) (cs : List Value) : Prop := cs = [.int .i64 z] ∧ -9223372036854775808 ≤ z ∧ z ≤ 9223372036854775807
theorem int_of {w : World} {po : Option Addr} {zs : List Int} {k : Nat} (h : RowOf w po 1 IntIs zs) (hk : k < zs.length) : ∃ (b off : Nat) (z : Int), po = some ⟨b, off, none⟩ ∧ (-9223372036854775808 ≤ z ∧ z ≤ 9223372036854775807) ∧ ∀ w', Below w.heap.size w w' → w'.cell? ⟨b, off + k, none⟩ = some (.int .i64 z) := by
  obtain ⟨zb, zoff, rfl, hz1⟩ := h (by omega)
  obtain ⟨es, hes, ⟨rfl, hx1⟩, hcell⟩ := hz1 k hk
  refine ⟨zb, zoff, zs[k], rfl, hx1, fun w' hb => ?_⟩
  have c0 := (Chg.of_below hb (fun _ => False)).cell (hcell 0 _ rfl) (fun h => h)
  simpa using c0
theorem doc_one (w : World) : DocAt (w.alloc (.cells (zMap.setIfInBounds 0 (.bool true)) 47)) w.heap.size [0] := by
  refine ⟨_, heap_top _ _, by simp [zMap], fun i hi => ?_⟩
  rw [Array.getElem?_setIfInBounds]
  by_cases h : 0 = i
  · subst h; rw [if_pos rfl, if_pos (by simp [zMap])]; simp
  · have h' : i ≠ 0 := fun e => h e.symm
    rw [if_neg h]; simp [zMap, hi, h']
-- BEGIN1
set_option maxHeartbeats 4000000 in
set_option maxRecDepth 100000 in
theorem bundlePlays_any (po : Option Addr) (m c : Nat) (ps : List ActT) (ho : Option Addr) (n d : Nat) (zs : List Int) (W : World) (hT : Tab W) (hpl : ps.length = m) (hp : RowOf W po 3 ActIs ps) (hpm : m ≤ maxLen) (hzl : zs.length = n) (hz : RowOf W ho 1 IntIs zs) (hzm : n ≤ maxLen) :
    Calls Tryd.prog 5 #[.slice po m c, .slice ho n d] W fun e w' => e = .returned (.bool true) ∧ Below W.heap.size W w' := by
  have hm63 : m ≤ 9223372036854775807 := hpm
  have hn63 : n ≤ 9223372036854775807 := hzm
  have HP := Lib.hid (And.intro hp hpl)
  have HZ := Lib.hid (And.intro hz hzl)
  have HT := Lib.hid hT
  have hzero := zeroMap
  clear hp hpl hT hpm hz hzl hzm
  go_enter Tryd.func5, Tryd.ntmps5
  go_wp2_with fail
  (with_reducible refine (awake _ HT.out).mono ?_)
  rintro e1 w1 ⟨rfl, hb1⟩
  have H1 := Lib.hid hb1
  clear hb1
  go_wp2_with fail
  (with_reducible refine (new_in W _ H1.out).mono ?_)
  rintro e2 w2 ⟨p, F, rfl, _, hn2⟩
  have hd2 := DocAt.zero w2
  have hc2 := hd2.cell (i := 0) (by decide)
  have hf2 := hd2.frozen 0
  have H2 := Lib.hid (show Both W (w2.alloc (.cells (zMap.setIfInBounds 0 (.bool true)) 47)) p w2.heap.size [0] F from
    ⟨hn2.alloc _, doc_one w2, fun h => by have := hn2.map.lt _ h; omega, hn2.below.size⟩)
  clear hn2 hd2
  simp only [List.not_mem_nil, decide_false] at hc2
  go_upto_block 0 with fail
  generalize w2.alloc (.cells (zMap.setIfInBounds 0 (.bool true)) 47) = w3 at *
  generalize w2.heap.size = q at *
  clear hc2 hf2
  go_cut [] (fun wx => ∃ l F, Both W wx p q l F)
  case first =>
    as_aux_lemma =>
      go_wp2_with fail
      go_loopg [33] m (fun g v wr => ∃ (k : Nat) (l F : List Nat), g + k = m ∧ v = .int .i64 k ∧ Both W wr p q l F)
      case atStart => exact ⟨0, _, _, rfl, rfl, H2.out⟩
      case round =>
        obtain ⟨k, l, F, hk, rfl, hmi⟩ := hrel
        have HM := Lib.hid hmi
        clear hmi
        by_cases hkm : k < m
        · obtain ⟨b, off, t, rfl, ⟨ht0, ht1⟩, hcs⟩ := act_of HP.out.1 (k := k) (by rw [HP.out.2]; exact hkm)
          obtain ⟨c0, c1, c2⟩ := hcs wr HM.out.map.below
          have hkI : (k : Int) < (m : Int) := by omega
          have hk0 : (0 : Int) ≤ (k : Int) := by omega
          have hal := HM.out.stays ((Below.refl _ wr).alloc (Nat.le_refl _) (.cells #[.bool t.join, .int .i64 t.at_, .bool t.raw] 35))
          obtain ⟨a0, a1, a2, _⟩ := cells3 (heap_top wr (.cells #[.bool t.join, .int .i64 t.at_, .bool t.raw] 35))
          have HA := Lib.hid hal
          have HT2 := Lib.hid (heap_top wr (.cells #[.bool t.join, .int .i64 t.at_, .bool t.raw] 35))
          clear hal hcs
          by_cases h60 : 60 < k
          · have h60I : (60 : Int) < (k : Int) := by omega
            go_wp2
            go_meet
            exact ⟨l, F, HA.out⟩
          · have h60I : ¬ (60 : Int) < (k : Int) := by omega
            go_wp2_with fail
            (with_reducible refine (few_any t _ ht0 ht1).mono ?_)
            rintro e5 w5 ⟨rfl, hb5⟩
            have H5 := Lib.hid (HA.out.stays hb5)
            obtain ⟨d0, d1, d2, _⟩ := cells3 ((hb5.block wr.heap.size (by rw [size_alloc]; omega)).trans HT2.out)
            clear hb5
            generalize fewI t = Z at *
            cases hj : t.join with
            | true =>
              rw [hj] at d0
              go_wp2_with fail
              (with_reducible refine (join_in W _ p l F Z H5.out.map).mono ?_)
              rintro e6 w6 ⟨cc, l1, rfl, hjp, hm6, hc6⟩
              have H6 := Lib.hid (And.intro hm6 (And.intro (H5.out.doc.keep hc6 H5.out.far) hjp))
              clear hm6 hc6 hjp
              go_wp2_with fail
              (with_reducible refine (joinB W _ p q l l1 F Z cc H6.out.2.2 H6.out.1 H6.out.2.1 H5.out.far H5.out.new).mono ?_)
              rintro e7 w7 ⟨rfl, hb7⟩
              have HB := Lib.hid hb7
              clear hb7
              obtain ⟨F1, hF1⟩ : ∃ F1, F1 = F := ⟨_, rfl⟩
              rw [← hF1] at HB
              go_wp2_with fail
              (with_reducible refine (all_any p l1 F1 _ HB.out.map.map (by have := HB.out.map.ok.len; omega)).mono ?_)
              rintro ea wa ⟨xo, xc, rfl, hba, hxa, _⟩
              have HA := Lib.hid (And.intro (HB.out.stays hba) hxa)
              clear hba hxa
              go_wp2_with fail
              (with_reducible refine (rall_any q l1 _ HA.out.1.doc HA.out.1.map.ok).mono ?_)
              rintro eb wb ⟨yo, yc, rfl, hbb, hyb⟩
              have HY := Lib.hid (And.intro (HA.out.1.stays hbb) (And.intro (Row.below HA.out.2.row hbb) hyb.row))
              clear hbb hyb
              go_wp2_with fail
              (with_reducible refine (same_ints xo yo _ xc yc l1 _ HY.out.2.1 HY.out.2.2 rfl (by have := HY.out.1.map.ok.len; omega)).mono ?_)
              rintro ec wc ⟨rfl, hbc⟩
              have HC := Lib.hid (HY.out.1.stays hbc)
              clear hbc
              go_wp2
              go_roundg (gk - 1)
              case measure => omega
              case rel => exact ⟨k + 1, l1, F1, by omega, by go_num, HC.out⟩
            | false =>
              rw [hj] at d0
              go_wp2_with fail
              (with_reducible refine (split_in W _ p l F Z H5.out.map).mono ?_)
              rintro e6 w6 ⟨cc, l1, F1, rfl, hsp, hm6, hc6, hf6⟩
              have hqF : q ∉ F1 := fun h => by
                rcases hf6 q h with h | h
                · exact H5.out.far h
                · have := H5.out.doc.lt; omega
              have H6 := Lib.hid (And.intro hm6 (And.intro (H5.out.doc.keep hc6 H5.out.far) (And.intro hsp hqF)))
              clear hm6 hc6 hsp hf6 hqF
              go_wp2_with fail
              (with_reducible refine (splitB W _ p q l l1 F1 Z cc H6.out.2.2.1 H5.out.map.ok H6.out.1 H6.out.2.1 H6.out.2.2.2 H5.out.new).mono ?_)
              rintro e7 w7 ⟨rfl, hb7⟩
              have HB := Lib.hid hb7
              clear hb7
              go_wp2_with fail
              (with_reducible refine (all_any p l1 F1 _ HB.out.map.map (by have := HB.out.map.ok.len; omega)).mono ?_)
              rintro ea wa ⟨xo, xc, rfl, hba, hxa, _⟩
              have HA := Lib.hid (And.intro (HB.out.stays hba) hxa)
              clear hba hxa
              go_wp2_with fail
              (with_reducible refine (rall_any q l1 _ HA.out.1.doc HA.out.1.map.ok).mono ?_)
              rintro eb wb ⟨yo, yc, rfl, hbb, hyb⟩
              have HY := Lib.hid (And.intro (HA.out.1.stays hbb) (And.intro (Row.below HA.out.2.row hbb) hyb.row))
              clear hbb hyb
              go_wp2_with fail
              (with_reducible refine (same_ints xo yo _ xc yc l1 _ HY.out.2.1 HY.out.2.2 rfl (by have := HY.out.1.map.ok.len; omega)).mono ?_)
              rintro ec wc ⟨rfl, hbc⟩
              have HC := Lib.hid (HY.out.1.stays hbc)
              clear hbc
              go_wp2
              go_roundg (gk - 1)
              case measure => omega
              case rel => exact ⟨k + 1, l1, F1, by omega, by go_num, HC.out⟩
        · have hkI : ¬ (k : Int) < (m : Int) := by omega
          go_wp2
          go_meet
          exact ⟨l, F, HM.out⟩
  case rest =>
    as_aux_lemma =>
      obtain ⟨l, F, h5⟩ := hcut
      have H5 := Lib.hid h5
      clear h5
      go_wp2_with fail
      go_loopg [70] n (fun g v wr => ∃ k : Nat, g + k = n ∧ v = .int .i64 k ∧ Both W wr p q l F)
      case atStart => exact ⟨0, rfl, rfl, H5.out⟩
      case round =>
        obtain ⟨k, hk, rfl, hmi⟩ := hrel
        have HM := Lib.hid hmi
        clear hmi
        by_cases hkn : k < n
        · obtain ⟨b, off, X, rfl, ⟨ht0, ht1⟩, hcs⟩ := int_of HZ.out.1 (k := k) (by rw [HZ.out.2]; exact hkn)
          have c0 := hcs wr HM.out.map.below
          have hkI : (k : Int) < (n : Int) := by omega
          have hk0 : (0 : Int) ≤ (k : Int) := by omega
          clear hcs
          by_cases h20 : 20 < k
          · have h20I : (20 : Int) < (k : Int) := by omega
            go_wp2
            go_ret
            exact ⟨rfl, HM.out.map.below⟩
          · have h20I : ¬ (20 : Int) < (k : Int) := by omega
            have hw : IntKind.u64.wrap X = X % 18446744073709551616 := by rw [IntKind.wrap_u64]
            obtain ⟨r, hr, hr24⟩ : ∃ r : Nat, X % 18446744073709551616 % 65536 = (r : Int) ∧ r < 65536 := ⟨(X % 18446744073709551616 % 65536).toNat, by omega, by omega⟩
            have hrt : (X % 18446744073709551616).tmod 65536 = (r : Int) := by rw [Int.tmod_eq_emod_of_nonneg (by omega)]; exact hr
            have hrw := IntWalk.i64_in (r : Int) (by omega)
            have HA := Lib.hid (HM.out.stays ((Below.refl _ wr).alloc (Nat.le_refl _) (.cells #[.int .i64 X, .int .i64 (r : Int)] 3)))
            have HT2 := Lib.hid (heap_top wr (.cells #[.int .i64 X, .int .i64 (r : Int)] 3))
            clear ht0 ht1
            obtain ⟨G, rfl⟩ : ∃ G, G = gk := ⟨_, rfl⟩
            go_wp2_with fail
            obtain ⟨wo, rfl⟩ : ∃ wo : World, wo = wr := ⟨_, rfl⟩
            go_loopg [84] 2 (fun g v wx => ∃ j : Nat, g + j = 2 ∧ v = .int .i64 j ∧ Both W wx p q l F ∧ wx.heap[wo.heap.size]? = some (.cells #[.int .i64 X, .int .i64 (r : Int)] 3 (0, 0)))
            case atStart => exact ⟨0, rfl, rfl, HA.out, HT2.out⟩
            case round =>
              obtain ⟨j, hj, rfl, hbo, hto⟩ := hrel
              have HB := Lib.hid (And.intro hbo hto)
              have hk0 := heap_cell hto 0
              have hk1 := heap_cell hto 1
              simp at hk0 hk1
              clear hbo hto
              have hj3 : j = 0 ∨ j = 1 ∨ j = 2 := by omega
              rcases hj3 with rfl | rfl | rfl
              · have hcell := hk0
                go_wp2_with fail
                (with_reducible refine (of_gen W _ p l F X HB.out.1.map).mono ?_)
                rintro e6 w6 ⟨A, B, ok, rfl, hb6, hg⟩
                have H6 := Lib.hid (And.intro (HB.out.1.stays hb6) (And.intro ((hb6.block wo.heap.size (heap_lt HB.out.2)).trans HB.out.2) hg))
                clear hb6 hg
                go_wp2_with fail
                (with_reducible refine (rof_gen _ q l X A B ok H6.out.1.doc H6.out.1.map.ok H6.out.2.2).mono ?_)
                rintro e7 w7 ⟨rfl, hb7⟩
                have H7 := Lib.hid (And.intro (H6.out.1.stays hb7) ((hb7.block wo.heap.size (heap_lt H6.out.2.1)).trans H6.out.2.1))
                clear hb7
                go_wp2
                go_roundg (gk - 1)
                case measure => omega
                case rel => exact ⟨1, by omega, by go_num, H7.out⟩
              · have hcell := hk1
                go_wp2_with fail
                (with_reducible refine (of_gen W _ p l F (r : Int) HB.out.1.map).mono ?_)
                rintro e6 w6 ⟨A, B, ok, rfl, hb6, hg⟩
                have H6 := Lib.hid (And.intro (HB.out.1.stays hb6) (And.intro ((hb6.block wo.heap.size (heap_lt HB.out.2)).trans HB.out.2) hg))
                clear hb6 hg
                go_wp2_with fail
                (with_reducible refine (rof_gen _ q l (r : Int) A B ok H6.out.1.doc H6.out.1.map.ok H6.out.2.2).mono ?_)
                rintro e7 w7 ⟨rfl, hb7⟩
                have H7 := Lib.hid (And.intro (H6.out.1.stays hb7) ((hb7.block wo.heap.size (heap_lt H6.out.2.1)).trans H6.out.2.1))
                clear hb7
                go_wp2
                go_roundg (gk - 1)
                case measure => omega
                case rel => exact ⟨2, by omega, by go_num, H7.out⟩
              · go_wp2
                go_roundg (G - 1)
                case measure => omega
                case rel => exact ⟨k + 1, by omega, by go_num, HB.out.1⟩
        · have hkI : ¬ (k : Int) < (n : Int) := by omega
          go_wp2
          go_ret
          exact ⟨rfl, HM.out.map.below⟩
-- END1
theorem bundlePlays_in (W : World) (base : Nat) (hT : Tab W) (v0 v1 : Value) (k0 : Value.okWide Tryd.prog W .any base 26 v0) (k1 : Value.okWide Tryd.prog W .any base 41 v1) (r0 : Rd Tryd.prog W 26 v0.cells.toList) (r1 : Rd Tryd.prog W 41 v1.cells.toList) :
    Calls Tryd.prog 5 #[v0, v1] W fun e w' => e = .returned (.bool true) ∧ Below W.heap.size W w' := by
  obtain ⟨po, ps, d, rfl, h4, h5, h6⟩ := in_slice Tryd.underlying26 (size := 3) (by kernel_rfl) (by decide) ActIs (fun es h => act_rd h) k0 r0
  obtain ⟨ho, zs, d2, rfl, g4, g5, g6⟩ := in_slice Tryd.underlying41 (size := 1) (by kernel_rfl) (by decide) IntIs (fun es h => by obtain ⟨z, e, h1, h2⟩ := h.i64 Tryd.underlying3; exact ⟨z, e, h1, h2⟩) k1 r1
  exact bundlePlays_any po _ d ps ho _ d2 zs W hT rfl h4 (Nat.le_trans h5 h6) rfl g4 (Nat.le_trans g5 g6)
end Go.Proofs.YtibigfglhpdjmaaDoor
