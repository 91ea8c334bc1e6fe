/-
  THE LAW NetOwn OF LAYER 20, WALKED.
-/
import Derived.Test.YtgbfpllaianeaaaNetA
namespace Go.Proofs.Ytgbfpllaianeaaa
open Go Go.RowKit

theorem own_blk {w : World} {b off n cap : Nat} {sp : Option Nat} {l : List UInt8} (h : Own w 1 (some ⟨b, off, sp⟩) n cap (l.map cb)) : sp = none := (h.at_ _ rfl).1
theorem own_some {w : World} {bo : Option Addr} {n cap : Nat} {l : List UInt8} (h : Own w 1 bo n cap (l.map cb)) (hn : 0 < n) : ∃ b off, bo = some ⟨b, off, none⟩ := by
  cases hx : bo with
  | none => have := h.nil hx; have := h.le; omega
  | some a => obtain ⟨b, off, sp⟩ := a; have := (h.at_ _ hx).1; simp at this; exact ⟨b, off, by rw [this]⟩
theorem own_len {w : World} {bo : Option Addr} {n cap : Nat} {l : List UInt8} (h : Own w 1 bo n cap (l.map cb)) : l.length = n := by
  have := h.len; rwa [List.length_map, Nat.mul_one] at this
/-- What an owned slice's block is. -/
abbrev OnBlk (bo : Option Addr) : Nat → Prop := fun k => ∃ a, bo = some a ∧ a.block = k
/-- Copies, the first ones of which may have been turned. -/
structure CopiesAt (w : World) (oo : Option Addr) (n oc : Nat) (es : List Ent) (k : Nat) : Prop where
  own : Own w 3 oo n oc (es.flatMap Ent.cells)
  ent : ∀ e ∈ es.drop k, e.At w
theorem CopiesAt.next {w w' : World} {oo : Option Addr} {n oc k : Nat} {es : List Ent} {e : Ent} (h : CopiesAt w oo n oc es k) (hnd : (netF oo es).Nodup) (he : es[k]? = some e) (hc : Chg (OnBlk e.bo) w w') : CopiesAt w' oo n oc es (k + 1) := by
  obtain ⟨hlt, he'⟩ := List.getElem?_eq_some_iff.1 he
  have hd := List.drop_eq_getElem_cons hlt
  rw [he'] at hd
  rw [netF, List.nodup_append] at hnd
  have hmem : ∀ a, e.bo = some a → a.block ∈ es.flatMap (fun e => blk e.bo) := fun a ha => List.mem_flatMap.2 ⟨e, List.mem_of_getElem? he, mem_blk.2 ⟨a, ha, rfl⟩⟩
  refine ⟨h.own.keep hc ?_, fun x hx => (h.ent x (by rw [hd]; exact List.mem_cons_of_mem _ hx)).keep hc ?_⟩
  · rintro a ha ⟨b, hb, e⟩
    exact hnd.2.2 a.block (mem_blk.2 ⟨a, ha, rfl⟩) b.block (hmem b hb) e.symm
  · rintro a ha ⟨b, hb, e'⟩
    have h2 := hnd.2.1
    rw [← List.take_append_drop k es, hd, List.flatMap_append, List.flatMap_cons, List.nodup_append, List.nodup_append] at h2
    exact h2.2.1.2.2 b.block (mem_blk.2 ⟨b, hb, rfl⟩) a.block (List.mem_flatMap.2 ⟨x, hx, mem_blk.2 ⟨a, ha, rfl⟩⟩) e'
theorem CopiesAt.keep {w w' : World} {oo : Option Addr} {n oc k : Nat} {es : List Ent} (h : CopiesAt w oo n oc es k) (hb : Below w.heap.size w w') : CopiesAt w' oo n oc es k :=
  ⟨h.own.keep (Chg.of_below hb (fun _ => False)) (fun _ _ h => h), fun x hx => (h.ent x hx).keep (Chg.of_below hb (fun _ => False)) (fun _ _ h => h)⟩
theorem CopiesAt.at {w : World} {oo : Option Addr} {n oc k : Nat} {es : List Ent} {e : Ent} (h : CopiesAt w oo n oc es k) (he : es[k]? = some e) :
    ∃ b off, oo = some ⟨b, off, none⟩ ∧ w.cell? ⟨b, off + k * 3, none⟩ = some (.int .i64 e.m.frm) ∧ w.cell? ⟨b, off + k * 3 + 1, none⟩ = some (.int .i64 e.m.dst) ∧ w.cell? ⟨b, off + k * 3 + 2, none⟩ = some (.slice e.bo e.m.body.length e.cap) ∧ e.At w := by
  have hne : es.flatMap Ent.cells ≠ [] := by
    intro h0
    have := flat_len es
    rw [h0] at this
    rw [List.length_nil] at this
    rw [List.length_eq_zero_iff.1 (show es.length = 0 by omega)] at he; simp at he
  obtain ⟨b, off, rfl, hc⟩ := h.own.row hne
  obtain ⟨hlt, he'⟩ := List.getElem?_eq_some_iff.1 he
  refine ⟨b, off, rfl, ?_, ?_, ?_, h.ent e (by rw [List.drop_eq_getElem_cons hlt, he']; simp)⟩
  · have := hc (k * 3 + 0) _ (ent_cells he (by omega)); simpa using this
  · have := hc (k * 3 + 1) _ (ent_cells he (by omega)); rwa [← Nat.add_assoc] at this
  · have := hc (k * 3 + 2) _ (ent_cells he (by omega)); rwa [← Nat.add_assoc] at this
set_option maxHeartbeats 4000000 in
set_option maxRecDepth 100000 in
theorem netOwn_any (ao : Option Addr) (n c : Nat) (bs : List UInt8) (i : UInt8) (w : World) (hl : bs.length = n) (hb : Bts w ao bs) (hn : n ≤ maxLen) :
    Calls Try.prog 3 #[.slice ao n c, .int .u8 (i.toNat : Int)] w fun e w' => e = .returned (.bool true) ∧ Below w.heap.size w w' := by
  have HH := Lib.hid (And.intro hl hb)
  clear hl hb
  by_cases hlt : n ≤ 100
  · have H100 := Lib.hid hlt
    have HP := Lib.hid (show ([] ++ [⟨0, 0, bs⟩] : List Msg)[0]? = some ⟨0, 0, bs⟩ from rfl)
    have HL1 := Lib.hid (show ([] ++ [⟨0, 0, bs⟩] : List Msg).length < 4096 by simp)
    have hlb : bs.length ≤ 4096 := by rw [HH.out.1]; omega
    have HLB := Lib.hid hlb
    clear hlb
    go_enter Try.func3, Try.ntmps3
    go_wp2_with (first
      | (go_at_call 8; (with_reducible refine (awake _).mono ?_); rintro e1 w1 ⟨rfl, hw⟩; have HW := Lib.hid hw; clear hw)
      | (go_at_call 9; (with_reducible refine (new_in w _ HW.out).mono ?_); rintro e1 w2 ⟨p, rfl, _, hn1⟩; have H1 := Lib.hid hn1; clear hn1)
      | (go_at_call 10; (with_reducible refine (send_in w p [] _ 0 0 ao n c bs _ (by omega) HH.out.1 (HH.out.2.below H1.out.below) H1.out (by decide)).mono ?_); rintro e2 w3 ⟨rfl, F2, hn2, _⟩; have H2 := Lib.hid hn2; clear hn2)
      | (go_at_call 11; (with_reducible refine (double_in w p _ _ 0 0 ⟨0, 0, bs⟩ _ H2.out rfl HP.out HLB.out HL1.out).mono ?_); rintro e4 w4 ⟨rfl, F4, hn4, _⟩; have H4 := Lib.hid (show NetIn w w4 p [⟨0, 0, bs⟩, ⟨0, 0, bs⟩] F4 from hn4); clear hn4))
    obtain ⟨N3, hN3⟩ : ∃ N3 : Nat, (i.toNat : Int) % 3 = (N3 : Int) := ⟨i.toNat % 3, by omega⟩
    have hN3l : N3 < 3 := by omega
    rw [hN3]
    have HMS := Lib.hid (show ∀ m ∈ ([⟨0, 0, bs⟩, ⟨0, 0, bs⟩] : List Msg), m.body.length ≤ 4096 by simpa using HLB.out)
    have HL2 := Lib.hid (show ([⟨0, 0, bs⟩, ⟨0, 0, bs⟩] : List Msg).length = 2 from rfl)
    have HK2 := Lib.hid (show 2 ≤ 4096 by omega)
    clear hN3
    go_loopg [28] N3 (fun g v wr => ∃ k : Nat, g + k = N3 ∧ v = .int .u8 k ∧ NetIn w wr p [⟨0, 0, bs⟩, ⟨0, 0, bs⟩] F4)
    case atStart => exact ⟨0, by omega, rfl, H4.out⟩
    case round =>
      obtain ⟨k, hgk, rfl, hnet⟩ := hrel
      have HN := Lib.hid hnet
      clear hnet
      by_cases hk : k < N3
      · go_wp2_with (go_at_call 12; (with_reducible refine (all_in w p _ _ 2 _ HN.out HL2.out HK2.out HMS.out).mono ?_); rintro e7 w7 ⟨oo, oc, es, rfl, hm7, hes, hn7, hb7⟩; have H7 := Lib.hid (And.intro hm7 (And.intro hes (And.intro hn7 hb7))); clear hb7 hm7 hes hn7)
        obtain ⟨G1, rfl⟩ : ∃ G1, G1 = gk := ⟨_, rfl⟩
        obtain ⟨wo, rfl⟩ : ∃ wo, wo = wr := ⟨_, rfl⟩
        go_loopg [33] 2 (fun g v wx => ∃ j : Nat, g + j = 2 ∧ v = .int .i64 j ∧ CopiesAt wx oo 2 oc es j ∧ Below wo.heap.size wo wx)
        case atStart => exact ⟨0, by omega, rfl, ⟨H7.out.1.own, H7.out.1.ent⟩, H7.out.2.2.2⟩
        case round =>
          obtain ⟨j, hgj, rfl, hcop, hbel⟩ := hrel
          have HC := Lib.hid (And.intro hcop hbel)
          clear hcop hbel
          by_cases hj : j < 2
          · have hjl : j < es.length := by rw [H7.out.1.len]; exact hj
            have hej := List.getElem?_eq_getElem hjl
            obtain ⟨b, off, hlo, c0, c1, c2, hown⟩ := HC.out.1.at hej
            have hnew : ∀ a, es[j].bo = some a → wo.heap.size ≤ a.block := fun a ha => H7.out.2.2.1 _ (List.mem_append_right _ (List.mem_flatMap.2 ⟨_, List.mem_of_getElem? hej, mem_blk.2 ⟨a, ha, rfl⟩⟩))
            have hlen : es[j].m.body.length ≤ 4096 := HMS.out _ (by rw [← H7.out.2.1]; exact List.mem_map.2 ⟨_, List.mem_of_getElem? hej, rfl⟩)
            generalize es[j] = e at *
            obtain ⟨⟨f, t, body⟩, bo, bc⟩ := e
            dsimp only at *
            subst hlo
            have hbl : ∀ a, bo = some a → a.block < wr.heap.size := fun a ha => (hown.at_ a ha).2.1
            have hwa := (Below.refl _ wr).alloc (Nat.le_refl _) (.cells #[.int .i64 f, .int .i64 t, .slice bo body.length bc] 29)
            have hT := heap_top wr (.cells #[.int .i64 f, .int .i64 t, .slice bo body.length bc] 29)
            have hownA : Own _ 1 bo body.length bc (body.map cb) := hown.keep (Chg.of_below hwa (fun _ => False)) (fun _ _ h => h)
            have HE := Lib.hid (And.intro hej (And.intro hnew (And.intro hbl (And.intro hwa (And.intro hT hownA)))))
            clear hej hnew hbl hwa hT hown hownA
            go_wp2
            obtain ⟨G2, rfl⟩ : ∃ G2, G2 = gk := ⟨_, rfl⟩
            obtain ⟨wx, rfl⟩ : ∃ wx, wx = wr := ⟨_, rfl⟩
            obtain ⟨m, hm⟩ : ∃ m, m = body.length := ⟨_, rfl⟩
            rw [← hm] at HE hlen ⊢
            have HM := Lib.hid hm
            clear hm
            go_loopg [40] m (fun g v wy => ∃ (q : Nat) (l' : List UInt8), g + q = m ∧ v = .int .i64 q ∧ Own wy 1 bo m bc (l'.map cb) ∧ wy.heap[wx.heap.size]? = some (.cells #[.int .i64 f, .int .i64 t, .slice bo m bc] 29 (0, 0)) ∧ Chg (OnBlk bo) wx wy)
            case atStart => exact ⟨0, body, by omega, rfl, HE.out.2.2.2.2.2, HE.out.2.2.2.2.1, (Chg.refl _ _).alloc _⟩
            case round =>
              obtain ⟨q, l', hgq, rfl, hown, hbox, hch⟩ := hrel
              by_cases hq : q < m
              · obtain ⟨b2, off2, rfl⟩ := own_some hown (by omega)
                have hll := own_len hown
                obtain ⟨v, ev, d0, d1⟩ := own_at hown (k := q) (by omega)
                obtain ⟨x0, x1, x2, x3⟩ := cells3 hbox
                have HO := Lib.hid (And.intro hown (And.intro hbox hch))
                have hne : wx.heap.size ≠ b2 := by have := HE.out.2.2.1 _ rfl; simp at this; omega
                have HNE := Lib.hid hne
                clear hown hbox hch hll ev hne
                go_wp2
                go_roundg (gk - 1)
                case measure => omega
                case rel =>
                  refine ⟨q + 1, l'.set q (v ^^^ 255), by omega, by go_num, ?_, heap_far HO.out.2.1 HNE.out _, HO.out.2.2.set ⟨_, rfl, rfl⟩ _ _⟩
                  have := HO.out.1.set q (cb (v ^^^ 255)) (by omega)
                  rw [List.map_set, show bits .xor .u8 (v.toNat : Int) 255 = ((v ^^^ 255).toNat : Int) from xor8 v 255]
                  exact this
              · have HO := Lib.hid hch
                clear hown hbox hch
                go_wp2
                go_roundg (G2 - 1)
                case measure => omega
                case rel =>
                  refine ⟨j + 1, by omega, by go_num, HC.out.1.next H7.out.1.nodup HE.out.1 HO.out, HC.out.2.trans (HO.out.below HC.out.2.size ?_)⟩
                  rintro k ⟨a, ha, e⟩
                  exact e ▸ HE.out.2.1 a ha
          · have HB := Lib.hid (HN.out.stays HC.out.2)
            go_wp2
            go_roundg (G1 - 1)
            case measure => omega
            case rel => exact ⟨k + 1, by omega, by go_num, HB.out⟩
      · have HI0 := Lib.hid (show ([⟨0, 0, bs⟩, ⟨0, 0, bs⟩] : List Msg)[0]? = some ⟨0, 0, bs⟩ from rfl)
        have HI1 := Lib.hid (show ([⟨0, 0, bs⟩] : List Msg)[0]? = some ⟨0, 0, bs⟩ from rfl)
        have HK2' := Lib.hid (show ([⟨0, 0, bs⟩, ⟨0, 0, bs⟩] : List Msg).length ≤ 4096 by simp)
        have HK1' := Lib.hid (show ([⟨0, 0, bs⟩] : List Msg).length ≤ 4096 by simp)
        have hbl := HLB.out
        go_wp2_with (go_at_call 13; (with_reducible refine (take_in w p _ _ 0 0 ⟨0, 0, bs⟩ _ HN.out rfl HI0.out HK2'.out).mono ?_); rintro e5 w5 ⟨bo, bc, F5, rfl, hn5, ho5, hb5, _⟩; have H5 := Lib.hid (And.intro (show NetIn w w5 p [⟨0, 0, bs⟩] F5 from hn5) (And.intro ho5 hb5)); clear hn5 ho5 hb5)
        obtain ⟨G1, rfl⟩ : ∃ G1, G1 = gk := ⟨_, rfl⟩
        have hT := heap_top w5 (.cells #[.int .i64 0, .int .i64 0, .slice bo bs.length bc] 29)
        have hA := (Chg.refl (fun _ => False) w5).alloc (.cells #[.int .i64 0, .int .i64 0, .slice bo bs.length bc] 29)
        have hown := H5.out.2.1.keep hA (fun _ _ h => h)
        have hlt5 : ∀ a, bo = some a → a.block < w5.heap.size := fun a ha => (H5.out.2.1.at_ a ha).2.1
        obtain ⟨m, hm⟩ : ∃ m, m = bs.length := ⟨_, rfl⟩
        have HE := Lib.hid (And.intro hT (And.intro (show Own _ 1 bo bs.length bc (bs.map cb) from hown) hlt5))
        rw [← hm] at HE hbl ⊢
        have HM := Lib.hid hm
        clear hm hT hA hown hlt5
        go_loopg [61] m (fun g v wy => ∃ (q : Nat) (l' : List UInt8), g + q = m ∧ v = .int .i64 q ∧ Own wy 1 bo m bc (l'.map cb) ∧ wy.heap[w5.heap.size]? = some (.cells #[.int .i64 0, .int .i64 0, .slice bo m bc] 29 (0, 0)) ∧ Chg (OnBlk bo) w5 wy)
        case atStart => exact ⟨0, bs, by omega, rfl, HE.out.2.1, HE.out.1, (Chg.refl _ _).alloc _⟩
        case round =>
          obtain ⟨q, l', hgq, rfl, hown, hbox, hch⟩ := hrel
          by_cases hq : q < m
          · obtain ⟨b2, off2, rfl⟩ := own_some hown (by omega)
            have hll := own_len hown
            obtain ⟨v, ev, d0, d1⟩ := own_at hown (k := q) (by omega)
            obtain ⟨x0, x1, x2, x3⟩ := cells3 hbox
            have HO := Lib.hid (And.intro hown (And.intro hbox hch))
            have hne : w5.heap.size ≠ b2 := by have := HE.out.2.2 _ rfl; simp at this; omega
            have HNE := Lib.hid hne
            clear hown hbox hch hll ev hne
            go_wp2
            go_roundg (gk - 1)
            case measure => omega
            case rel =>
              refine ⟨q + 1, l'.set q (v ^^^ 255), by omega, by go_num, ?_, heap_far HO.out.2.1 HNE.out _, HO.out.2.2.set ⟨_, rfl, rfl⟩ _ _⟩
              have := HO.out.1.set q (cb (v ^^^ 255)) (by omega)
              rw [List.map_set, show bits .xor .u8 (v.toNat : Int) 255 = ((v ^^^ 255).toNat : Int) from xor8 v 255]
              exact this
          · have HO := Lib.hid (H5.out.1.keep hch (by rintro k hk ⟨a, ha, e⟩; exact (H5.out.2.2 a ha).2 (e ▸ hk)) (by rintro k ⟨a, ha, e⟩; exact e ▸ (H5.out.2.2 a ha).1))
            have kb := fun w1 hb => conv_bytes w1 Try.underlying22 Try.underlying5 Try.underlying9 ao n c bs HH.out.1 hb
            have HKB := Lib.hid kb
            have ks : ((strOf bs).toList == (strOf bs).toList) = true := by simp
            clear hown hbox hch kb
            go_wp2_with (go_at_call 13; (with_reducible refine (take_in w p _ _ 0 0 ⟨0, 0, bs⟩ _ HO.out rfl HI1.out HK1'.out).mono ?_); rintro e8 w8 ⟨co, cc, F8, rfl, hn8, ho8, _, _⟩; have hb8 := (hn8.alloc (.cells #[.int .i64 0, .int .i64 0, .slice co bs.length cc] 29)).below; have kx := conv_bytes (w8.alloc (.cells #[.int .i64 0, .int .i64 0, .slice co bs.length cc] 29)) Try.underlying22 Try.underlying5 Try.underlying9 co _ cc bs rfl (ho8.bts.below ((Below.refl _ w8).alloc (Nat.le_refl _) _)); have kc := HKB.out _ (HH.out.2.below hb8); have H8 := Lib.hid hb8; clear hn8 ho8 hb8)
            go_ret
            exact ⟨rfl, H8.out⟩
  · go_enter Try.func3, Try.ntmps3
    go_wp2_with (go_at_call 8; (with_reducible refine (awake _).mono ?_); rintro e1 w1 ⟨rfl, hw⟩; have HW := Lib.hid hw; clear hw)
    go_ret
    exact ⟨rfl, HW.out⟩
theorem netOwn_in (W : World) (base : Nat) (v0 v1 : Value) (k0 : Value.okWide Try.prog W .any base 22 v0) (k1 : Value.okWide Try.prog W .any base 5 v1) (r0 : Rd Try.prog W 22 v0.cells.toList) (r1 : Rd Try.prog W 5 v1.cells.toList) :
    Calls Try.prog 3 #[v0, v1] W fun e w' => e = .returned (.bool true) ∧ Below W.heap.size W w' := by
  obtain ⟨ao, bs, c, rfl, h1, h2, h3⟩ := in_bytesC Try.underlying22 Try.underlying5 (by kernel_rfl) k0 r0
  obtain ⟨i, rfl⟩ := in_u8 Try.underlying5 k1 r1
  exact netOwn_any ao _ c bs i W rfl h1 (Nat.le_trans h2 h3)
end Go.Proofs.Ytgbfpllaianeaaa
