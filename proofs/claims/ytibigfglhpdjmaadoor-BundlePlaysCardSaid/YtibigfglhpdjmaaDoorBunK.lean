/-
  BundleBack, walked.
-/
import Derived.Test.YtibigfglhpdjmaaDoorBunJ
import Derived.Test.YtibigfglhpdjmaaDoorBunH
namespace Go.Proofs.YtibigfglhpdjmaaDoor
open Go Go.RowKit

-- BEGIN1
theorem same_ints (ao bo : Option Addr) (n c d : Nat) (l : List Nat) (w : World) (h1 : Row w ao (l.map ci)) (h2 : Row w bo (l.map ci)) (hn : l.length = n) (hm : n ≤ 1000000) :
    Calls Tryd.prog 20 #[.slice ao n c, .slice bo n d] w fun e w' => e = .returned (.bool true) ∧ Below w.heap.size w w' := by
  have HR := Lib.hid (And.intro h1 (And.intro h2 hn))
  clear h1 h2 hn
  go_enter Tryd.func20, Tryd.ntmps20
  go_wp2
  go_loopg [5] n (fun g v wr => ∃ k : Nat, g + k = n ∧ v = .int .i64 k ∧ Below w.heap.size w wr)
  case atStart => exact ⟨0, rfl, rfl, Below.refl _ _⟩
  case round =>
    obtain ⟨k, hk, rfl, hb⟩ := hrel
    by_cases hlt : k < n
    · obtain ⟨x, hx⟩ : ∃ x, l[k]? = some x := ⟨_, List.getElem?_eq_getElem (by rw [HR.out.2.2]; exact hlt)⟩
      obtain ⟨b, off, rfl, hc⟩ := row_ci (Row.below HR.out.1 hb) hx
      obtain ⟨b2, off2, rfl, hc2⟩ := row_ci (Row.below HR.out.2.1 hb) hx
      have hltI : (k : Int) < (n : Int) := by omega
      have h0I : (0 : Int) ≤ (k : Int) := by omega
      have HB := Lib.hid hb
      clear hb hx
      as_aux_lemma =>
        go_wp2
        go_quiet (fail)
        go_wp2
        go_roundg (gk - 1)
        case measure => omega
        case rel => exact ⟨k + 1, by omega, by go_num, below_drewN HB.out _⟩
    · have hltI : ¬ (k : Int) < (n : Int) := by omega
      have HB := Lib.hid hb
      clear hb
      as_aux_lemma =>
        go_wp2
        go_ret
        exact ⟨rfl, HB.out⟩
-- END1
theorem without_put {l : List Nat} {q z : Nat} (h : z ∉ l) : without (putAt l q z) z = l := by
  have f : ∀ xs : List Nat, (∀ x ∈ xs, x ≠ z) → xs.filter (fun x => decide (x ≠ z)) = xs := fun xs hx => List.filter_eq_self.2 (fun a ha => by simpa using hx a ha)
  rw [without, putAt, List.filter_append, List.filter_cons, f _ (fun x hx e => h (by rw [← e]; exact List.mem_of_mem_take hx)), f _ (fun x hx e => h (by rw [← e]; exact List.mem_of_mem_drop hx))]
  simp
theorem at_self {l : List Nat} {q k z : Nat} (hs : Inc l) (h : At l q z) (hk : l[k]? = some z) : q = k := by
  have h1 : k ≤ q := by
    rcases Nat.lt_or_ge q k with h1 | h1
    · have := h.hi k z h1 hk; omega
    · exact h1
  rcases Nat.lt_or_ge k q with h2 | h2
  · obtain ⟨hk1, hk2⟩ := List.getElem?_eq_some_iff.1 hk
    have h3 := List.pairwise_iff_getElem.1 hs k q hk1 h.lt h2
    have h4 := h.lo q (l[q]'h.lt) (Nat.le_refl _) (List.getElem?_eq_getElem h.lt)
    omega
  · omega
theorem of_self {l : List Nat} {k z a b : Nat} (hs : Inc l) (h : OfP l z a b) (hk : l[k]? = some z) : a = z ∧ b = nxt l k := by
  obtain ⟨q, h1, h2, h3⟩ := ofp_at h
  obtain rfl := at_self hs h3 hk
  exact ⟨by rw [hk] at h1; cases h1; rfl, h2⟩
theorem nxt_le {l : List Nat} (ho : Ok l) {k x : Nat} (hx : l[k]? = some x) : x ≤ nxt l k ∧ nxt l k ≤ 65536 := by
  have hx2 := ho.top x (List.mem_of_getElem? hx)
  cases hy : l[k + 1]? with
  | none => rw [nxt, hy]; exact ⟨by simp; omega, by simp⟩
  | some y =>
    have := ho.top y (List.mem_of_getElem? hy)
    have := ho.inc.le k (k + 1) x y (by omega) hx hy
    rw [nxt, hy]; simp; omega
-- BEGIN2
set_option maxHeartbeats 2000000 in
set_option maxRecDepth 100000 in
theorem bundleBack_any (po : Option Addr) (m c : Nat) (ps : List ActT) (z : Int) (W : World) (hT : Tab W) (hpl : ps.length = m) (hp : RowOf W po 3 ActIs ps) (hpm : m ≤ maxLen) :
    Calls Tryd.prog 6 #[.slice po m c, .int .i64 z] W fun e w' => e = .returned (.bool true) ∧ Below W.heap.size W w' := by
  have hm63 : m ≤ 9223372036854775807 := hpm
  have HP := Lib.hid (And.intro hp hpl)
  have HT := Lib.hid hT
  clear hp hpl hT hpm
  go_enter Tryd.func6, Tryd.ntmps6
  go_wp2_with fail
  (with_reducible refine (awake _ HT.out).mono ?_)
  rintro e1 w1 ⟨rfl, hb1⟩
  have H1 := Lib.hid hb1
  clear hb1
  go_wp2_with fail
  (with_reducible refine (new_in W _ H1.out).mono ?_)
  rintro e4 w4 ⟨p, F, rfl, _, hn4⟩
  have H4 := Lib.hid hn4
  clear hn4
  go_wp2_with fail
  go_loopg [21] m (fun g v wr => ∃ (k : Nat) (l F : List Nat), g + k = m ∧ v = .int .i64 k ∧ MapIn W wr p l F)
  case atStart => exact ⟨0, _, _, rfl, rfl, H4.out⟩
  case round =>
    obtain ⟨k, l, F, hk, rfl, hmi⟩ := hrel
    have HM := Lib.hid hmi
    clear hmi
    by_cases hkm : k < m
    · obtain ⟨b, off, t, rfl, ⟨ht0, ht1⟩, hcs⟩ := act_of HP.out.1 (k := k) (by rw [HP.out.2]; exact hkm)
      obtain ⟨c0, c1, c2⟩ := hcs wr HM.out.below
      have hkI : (k : Int) < (m : Int) := by omega
      have hk0 : (0 : Int) ≤ (k : Int) := by omega
      have hal := HM.out.alloc (.cells #[.bool t.join, .int .i64 t.at_, .bool t.raw] 35)
      obtain ⟨a0, a1, a2, _⟩ := cells3 (heap_top wr (.cells #[.bool t.join, .int .i64 t.at_, .bool t.raw] 35))
      have HA := Lib.hid hal
      clear hal hcs
      by_cases h14 : k < 14
      · have h60I : (k : Int) < 60 := by omega
        have h14I : (k : Int) < 14 := by omega
        go_wp2_with fail
        (with_reducible refine (few_any t _ ht0 ht1).mono ?_)
        rintro e5 w5 ⟨rfl, hb5⟩
        have H5 := Lib.hid (HA.out.stays hb5)
        clear hb5
        go_wp2_with fail
        (with_reducible refine (split_in W _ p l F _ H5.out).mono ?_)
        rintro e6 w6 ⟨cc, l', F', rfl, _, h6, _, _⟩
        have H6 := Lib.hid h6
        clear h6
        go_wp2
        go_roundg (gk - 1)
        case measure => omega
        case rel => exact ⟨k + 1, l', F', by omega, by go_num, H6.out⟩
      · have h14I : ¬ (k : Int) < 14 := by omega
        have h14J : decide ((k : Int) < 14) = false := decide_eq_false h14I
        go_wp2
        all_goals (
          go_roundg (gk - 1)
          case measure => omega
          case rel => exact ⟨k + 1, l, F, by omega, by go_num, HA.out⟩)
    · have hkI : ¬ (k : Int) < (m : Int) := by omega
      have hl16 := HM.out.ok.len
      go_wp2_with fail
      (with_reducible refine (all_any p l F _ HM.out.map (by omega)).mono ?_)
      rintro e5 w5 ⟨xo, xc, rfl, hb5, hx5, hxn⟩
      have hxF : ∀ a, xo = some a → a.block ∉ F := fun a ha hk => by have := hxn a ha; have := HM.out.map.lt _ hk; omega
      have hxl : ∀ a, xo = some a → a.block < w5.heap.size := fun a ha => (hx5.at_ a ha).2.1
      have H5 := Lib.hid (And.intro (HM.out.stays hb5) (And.intro hx5 (And.intro hxF hxl)))
      clear hb5 hx5 hxn hxF hxl
      go_wp2_with fail
      (with_reducible refine (split_in W _ p l F z H5.out.1).mono ?_)
      rintro e6 w6 ⟨cc, l1, F1, rfl, hsp, hm6, hc6, hf6⟩
      have hx6 := H5.out.2.1.keep hc6 H5.out.2.2.1
      have hxF6 : ∀ a, xo = some a → a.block ∉ F1 := fun a ha hk => by
        rcases hf6 _ hk with h | h
        · exact H5.out.2.2.1 a ha h
        · have := H5.out.2.2.2 a ha; omega
      have H6 := Lib.hid (And.intro hm6 (And.intro hx6 (And.intro hxF6 (And.intro hsp (fun a ha => Nat.lt_of_lt_of_le (H5.out.2.2.2 a ha) hc6.size)))))
      clear hm6 hx6 hxF6 hsp hc6 hf6
      have hk2 : (cc ≠ 0 ∧ l1 = l) ∨ (cc = 0 ∧ ∃ k q : Nat, z = (k : Int) ∧ 1 ≤ k ∧ k < 65536 ∧ k ∉ l ∧ l1 = putAt l q k) := by
        cases H6.out.2.2.2.1 with
        | out _ => exact .inl ⟨by decide, rfl⟩
        | has _ _ _ _ _ => exact .inl ⟨by decide, rfl⟩
        | full _ _ _ _ _ _ => exact .inl ⟨by decide, rfl⟩
        | go k q h1 h2 h3 h4 _ _ => exact .inr ⟨rfl, k, q, h1, h2, h3, h4, rfl⟩
      rcases hk2 with ⟨hcc, rfl⟩ | ⟨rfl, k, q, rfl, hk1, hk3, hkl, rfl⟩
      · have hccI : ((cc : Int) == 0) = false := beq_eq_false_iff_ne.2 (by omega)
        have hccJ : ¬ (cc : Int) = 0 := by omega
        obtain ⟨FZ, HE⟩ : ∃ FZ, Hid (MapIn W w6 p l1 FZ ∧ Row w6 xo (l1.map ci)) := ⟨F1, Lib.hid ⟨H6.out.1, H6.out.2.1.row⟩⟩
        clear hcc
        go_wp2_with fail
        (with_reducible refine (all_any p l1 FZ _ HE.out.1.map (by omega)).mono ?_)
        rintro e9 w9 ⟨yo, yc, rfl, hb9, hy9, _⟩
        have HR := Lib.hid (And.intro (HE.out.1.stays hb9) (And.intro hy9 (Row.below HE.out.2 hb9)))
        clear hb9 hy9
        obtain ⟨N, hN⟩ : ∃ N, N = l1.length := ⟨_, rfl⟩
        rw [← hN] at hl16 ⊢
        have HN := Lib.hid hN
        clear hN
        go_wp2_with fail
        go_loopg [10, 59] N (fun g sv i wr => ∃ k S : Nat, g + k = N ∧ sv = .int .i64 (S : Int) ∧ S = l1[k]?.getD 65536 ∧ i = .int .i64 k ∧ Below w9.heap.size w9 wr)
        case atStart => exact ⟨0, 0, by omega, rfl, by rw [HR.out.1.ok.zero]; rfl, rfl, Below.refl _ _⟩
        case round =>
          obtain ⟨k, S, hk, rfl, hS, rfl, hb⟩ := hrel
          have HB := Lib.hid hb
          clear hb
          by_cases hkN : k < N
          · obtain ⟨x, hx⟩ : ∃ x, l1[k]? = some x := ⟨_, List.getElem?_eq_getElem (by have := HN.out; omega)⟩
            obtain ⟨yb, yoff, rfl, hcx⟩ := row_ci (Row.below HR.out.2.1.row HB.out) hx
            have hkI : (k : Int) < (N : Int) := by omega
            have hk0 : (0 : Int) ≤ (k : Int) := by omega
            obtain ⟨hn1, hn2⟩ := nxt_le HR.out.1.ok hx
            obtain rfl : S = x := by rw [hS, hx]; rfl
            have hx6 := HR.out.1.ok.top S (List.mem_of_getElem? hx)
            have HX := Lib.hid hx
            clear hx hS
            go_wp2_with fail
            (with_reducible refine (of_in W _ p l1 FZ S (HR.out.1.stays HB.out) hx6).mono ?_)
            rintro ea wa ⟨a, b, rfl, hba, hof⟩
            obtain ⟨rfl, hbn⟩ := of_self HR.out.1.ok.inc hof HX.out
            have HA := Lib.hid (And.intro (HB.out.trans (hba.mono HB.out.size)) hbn)
            rw [← hbn] at hn1 hn2
            clear hba hof hbn
            have hw1 := IntWalk.i64_in ((b : Int) - (a : Int)) (by omega)
            have hw2 := IntWalk.i64_in ((a : Int) + ((b : Int) - (a : Int))) (by omega)
            go_wp2
            go_roundg (gk - 1)
            case measure => omega
            case rel => exact ⟨k + 1, b, by omega, by go_num, HA.out.2, by go_num, HA.out.1⟩
          · have hkI : ¬ (k : Int) < (N : Int) := by omega
            obtain rfl : S = 65536 := by rw [hS, List.getElem?_eq_none (by have := HN.out; omega)]; rfl
            have hNl := HN.out
            have HL := Lib.hid (all_any p l1 FZ wr (HR.out.1.stays HB.out).map (by omega))
            rw [← hNl] at HL
            clear hNl hS
            go_wp2_with fail
            (with_reducible refine HL.out.mono ?_)
            rintro eb wb ⟨zo, zc, rfl, hbb, hzb, _⟩
            have HZ := Lib.hid (And.intro hzb.row (Row.below (Row.below HR.out.2.2 HB.out) hbb))
            have HM2 := Lib.hid ((HR.out.1.stays HB.out).stays hbb)
            clear hbb hzb
            go_wp2_with fail
            (with_reducible refine (same_ints zo xo N zc xc l1 _ HZ.out.1 HZ.out.2 HN.out.symm (by omega)).mono ?_)
            rintro ec wc ⟨rfl, hbc⟩
            have HM3 := Lib.hid (HM2.out.stays hbc)
            clear hbc
            go_wp2_with fail
            (with_reducible refine (join_out _ 0 _ (.inl (by decide))).mono ?_)
            rintro ed wd ⟨rfl, hbd⟩
            have HM4 := Lib.hid (HM3.out.stays hbd)
            clear hbd
            go_wp2
            go_ret
            exact ⟨rfl, HM4.out.below⟩
      · go_wp2_with fail
        (with_reducible refine (split_has p (putAt l q k) F1 k _ H6.out.1.map H6.out.1.ok.len hk1 hk3 (putAt_mem.2 (.inl rfl))).mono ?_)
        rintro e7 w7 ⟨rfl, hb7⟩
        have H7 := Lib.hid (And.intro (H6.out.1.stays hb7) (H6.out.2.1.keep (Chg.of_below hb7 (fun _ => False)) (fun _ _ h => h)))
        clear hb7
        go_wp2_with fail
        (with_reducible refine (join_in W _ p (putAt l q k) F1 (k : Int) H7.out.1).mono ?_)
        rintro e8 w8 ⟨c8, l8, rfl, hj8, hm8, hc8⟩
        obtain ⟨rfl, rfl⟩ : c8 = 0 ∧ l8 = l := by
          cases hj8 with
          | out h => omega
          | none k' e _ _ h => obtain rfl : k' = k := by omega
                               exact absurd (putAt_mem.2 (.inl rfl)) h
          | go k' e _ _ _ => obtain rfl : k' = k := by omega
                             exact ⟨rfl, without_put hkl⟩
        obtain ⟨FZ, HE⟩ : ∃ FZ, Hid (MapIn W w8 p l8 FZ ∧ Row w8 xo (l8.map ci)) := ⟨F1, Lib.hid ⟨hm8, (H7.out.2.keep hc8 (fun a ha => H6.out.2.2.1 a ha)).row⟩⟩
        clear hj8 hm8 hc8
        go_wp2_with fail
        (with_reducible refine (all_any p l8 FZ _ HE.out.1.map (by omega)).mono ?_)
        rintro e9 w9 ⟨yo, yc, rfl, hb9, hy9, _⟩
        have HR := Lib.hid (And.intro (HE.out.1.stays hb9) (And.intro hy9 (Row.below HE.out.2 hb9)))
        clear hb9 hy9
        obtain ⟨N, hN⟩ : ∃ N, N = l8.length := ⟨_, rfl⟩
        rw [← hN] at hl16 ⊢
        have HN := Lib.hid hN
        clear hN
        go_wp2_with fail
        go_loopg [10, 59] N (fun g sv i wr => ∃ k S : Nat, g + k = N ∧ sv = .int .i64 (S : Int) ∧ S = l8[k]?.getD 65536 ∧ i = .int .i64 k ∧ Below w9.heap.size w9 wr)
        case atStart => exact ⟨0, 0, by omega, rfl, by rw [HR.out.1.ok.zero]; rfl, rfl, Below.refl _ _⟩
        case round =>
          obtain ⟨k, S, hk, rfl, hS, rfl, hb⟩ := hrel
          have HB := Lib.hid hb
          clear hb
          by_cases hkN : k < N
          · obtain ⟨x, hx⟩ : ∃ x, l8[k]? = some x := ⟨_, List.getElem?_eq_getElem (by have := HN.out; omega)⟩
            obtain ⟨yb, yoff, rfl, hcx⟩ := row_ci (Row.below HR.out.2.1.row HB.out) hx
            have hkI : (k : Int) < (N : Int) := by omega
            have hk0 : (0 : Int) ≤ (k : Int) := by omega
            obtain ⟨hn1, hn2⟩ := nxt_le HR.out.1.ok hx
            obtain rfl : S = x := by rw [hS, hx]; rfl
            have hx6 := HR.out.1.ok.top S (List.mem_of_getElem? hx)
            have HX := Lib.hid hx
            clear hx hS
            go_wp2_with fail
            (with_reducible refine (of_in W _ p l8 FZ S (HR.out.1.stays HB.out) hx6).mono ?_)
            rintro ea wa ⟨a, b, rfl, hba, hof⟩
            obtain ⟨rfl, hbn⟩ := of_self HR.out.1.ok.inc hof HX.out
            have HA := Lib.hid (And.intro (HB.out.trans (hba.mono HB.out.size)) hbn)
            rw [← hbn] at hn1 hn2
            clear hba hof hbn
            have hw1 := IntWalk.i64_in ((b : Int) - (a : Int)) (by omega)
            have hw2 := IntWalk.i64_in ((a : Int) + ((b : Int) - (a : Int))) (by omega)
            go_wp2
            go_roundg (gk - 1)
            case measure => omega
            case rel => exact ⟨k + 1, b, by omega, by go_num, HA.out.2, by go_num, HA.out.1⟩
          · have hkI : ¬ (k : Int) < (N : Int) := by omega
            obtain rfl : S = 65536 := by rw [hS, List.getElem?_eq_none (by have := HN.out; omega)]; rfl
            have hNl := HN.out
            have HL := Lib.hid (all_any p l8 FZ wr (HR.out.1.stays HB.out).map (by omega))
            rw [← hNl] at HL
            clear hNl hS
            go_wp2_with fail
            (with_reducible refine HL.out.mono ?_)
            rintro eb wb ⟨zo, zc, rfl, hbb, hzb, _⟩
            have HZ := Lib.hid (And.intro hzb.row (Row.below (Row.below HR.out.2.2 HB.out) hbb))
            have HM2 := Lib.hid ((HR.out.1.stays HB.out).stays hbb)
            clear hbb hzb
            go_wp2_with fail
            (with_reducible refine (same_ints zo xo N zc xc l8 _ HZ.out.1 HZ.out.2 HN.out.symm (by omega)).mono ?_)
            rintro ec wc ⟨rfl, hbc⟩
            have HM3 := Lib.hid (HM2.out.stays hbc)
            clear hbc
            go_wp2_with fail
            (with_reducible refine (join_out _ 0 _ (.inl (by decide))).mono ?_)
            rintro ed wd ⟨rfl, hbd⟩
            have HM4 := Lib.hid (HM3.out.stays hbd)
            clear hbd
            go_wp2
            go_ret
            exact ⟨rfl, HM4.out.below⟩
-- END2
theorem bundleBack_in (W : World) (base : Nat) (hT : Tab W) (v0 v1 : Value) (k0 : Value.okWide Tryd.prog W .any base 26 v0) (k1 : Value.okWide Tryd.prog W .any base 3 v1) (r0 : Rd Tryd.prog W 26 v0.cells.toList) (r1 : Rd Tryd.prog W 3 v1.cells.toList) :
    Calls Tryd.prog 6 #[v0, v1] W fun e w' => e = .returned (.bool true) ∧ Below W.heap.size W w' := by
  obtain ⟨z, rfl, _⟩ := in_i64 Tryd.underlying3 k1 r1
  obtain ⟨po, ps, d, rfl, h4, h5, h6⟩ := in_slice Tryd.underlying26 (size := 3) (by kernel_rfl) (by decide) ActIs (fun es h => act_rd h) k0 r0
  exact bundleBack_any po _ d ps z W hT rfl h4 (Nat.le_trans h5 h6)
end Go.Proofs.YtibigfglhpdjmaaDoor
