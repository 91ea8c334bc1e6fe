/-
  THE LAW JournalWrites OF LAYER 5, WALKED.
-/
import Derived.Test.YtggidllaodloiaaJourC
namespace Go.Proofs.Ytggidllaodloiaa
open Go Go.RowKit

/-- A journal of the law's own, and beside it bytes B of its own at wo. -/
structure WritesAt (w0 w : World) (j p : Nat) (d : Dsk) (F : List Nat) (wo : Option Addr) (nw cw : Nat) (B : List UInt8) : Prop where
  jm : JM w0 w j p d F
  own : Own w 1 wo nw cw (B.map cb)
  at_ : ∀ a, wo = some a → w0.heap.size ≤ a.block ∧ a.block ∉ F ∧ a.block ≠ j
section
variable {w0 w w' : World} {j p : Nat} {d d' : Dsk} {F F' : List Nat} {wo : Option Addr} {nw cw : Nat} {B : List UInt8}
theorem WritesAt.stays (h : WritesAt w0 w j p d F wo nw cw B) (hb : Below w.heap.size w w') : WritesAt w0 w' j p d F wo nw cw B :=
  ⟨h.jm.stays hb, h.own.keep (Chg.of_below hb (fun _ => False)) (fun _ _ h => h), h.at_⟩
theorem WritesAt.did (h : WritesAt w0 w j p d F wo nw cw B) (hd : DiskDid w p d' F w') : ∃ F', WritesAt w0 w' j p d' F' wo nw cw B := by
  obtain ⟨F', h1, h2, h3⟩ := h.jm.did hd
  refine ⟨F', h1, h.own.keep h2 (fun a ha => (h.at_ a ha).2.1), fun a ha => ⟨(h.at_ a ha).1, fun hk => ?_, (h.at_ a ha).2.2⟩⟩
  rcases h3 _ hk with hk | hk
  · exact (h.at_ a ha).2.1 hk
  · have := (h.own.at_ a ha).2.1; omega
theorem WritesAt.grow {wo' : Option Addr} {cw' n : Nat} {ys : List UInt8} (h : WritesAt w0 w j p d F wo nw cw B) (ho : Own w' 1 wo' (nw + n) cw' (B.map cb ++ ys.map cb)) (hc : Chg (fun k => ∃ a, wo = some a ∧ a.block = k) w w') (hx : ∀ a', wo' = some a' → wo = some a' ∨ w.heap.size ≤ a'.block) :
    WritesAt w0 w' j p d F wo' (nw + n) cw' (B ++ ys) := by
  refine ⟨h.jm.keep hc (fun k hk ⟨a, ha, q⟩ => (h.at_ a ha).2.1 (q ▸ hk)) (fun ⟨a, ha, q⟩ => (h.at_ a ha).2.2 q) (fun k ⟨a, ha, q⟩ => q ▸ (h.at_ a ha).1), by rw [List.map_append]; exact ho, fun a ha => ?_⟩
  rcases hx a ha with hl | hl
  · exact h.at_ a hl
  · refine ⟨Nat.le_trans h.jm.below.size hl, fun hk => ?_, fun q => ?_⟩
    · have := h.jm.j.disk.lt _ hk; omega
    · have := heap_lt h.jm.j.jr; omega
end
theorem lay_w (w0 : World) (j p : Nat) (d d' : Dsk) (F : List Nat) (wo : Option Addr) (nw cw : Nat) (B : List UInt8) (bo : Option Addr) (n c : Nat) (bs : List UInt8) (code : Int) (w : World) (h : WritesAt w0 w j p d F wo nw cw B) (hl : bs.length = n) (hb : Bts w bo bs) (hn : n ≤ 4096) (ha : d.append (frame bs) = (code, d')) :
    Calls Try.prog 12 #[.pointer (some ⟨j, 0, none⟩), .slice bo n c] w fun e w' => e = .returned (.int .i64 code) ∧ ∃ F', WritesAt w0 w' j p d' F' wo nw cw B :=
  (lay_any j p d F bo n c bs code d' w h.jm.j hl hb hn ha).mono fun _ _ ⟨e, hd⟩ => ⟨e, h.did hd⟩
theorem write_w (w0 : World) (j p : Nat) (d d' : Dsk) (F : List Nat) (wo : Option Addr) (nw cw : Nat) (B : List UInt8) (bo : Option Addr) (n c : Nat) (bs : List UInt8) (w : World) (h : WritesAt w0 w j p d F wo nw cw B) (hl : bs.length = n) (hb : Bts w bo bs) (hn : n ≤ 4096) (ha : n + 8 ≤ d.room - d.b.length) (hd : (⟨d.room, (d.b ++ frame bs).length, d.b ++ frame bs⟩ : Dsk) = d') :
    Calls Try.prog 11 #[.pointer (some ⟨j, 0, none⟩), .slice bo n c] w fun e w' => e = .returned (.int .i64 0) ∧ ∃ F', WritesAt w0 w' j p d' F' wo nw cw B := by
  subst hd
  exact (write_ok j p d F bo n c bs w h.jm.j hl hb hn ha).mono fun _ _ ⟨e, hd⟩ => ⟨e, h.did hd⟩
theorem writef_w (w0 : World) (j p : Nat) (d : Dsk) (F : List Nat) (wo : Option Addr) (nw cw : Nat) (B : List UInt8) (bo : Option Addr) (n c : Nat) (bs : List UInt8) (w : World) (h : WritesAt w0 w j p d F wo nw cw B) (hl : bs.length = n) (hb : Bts w bo bs) (hn : n ≤ 4096) (ha : d.room - d.b.length < n + 8) :
    Calls Try.prog 11 #[.pointer (some ⟨j, 0, none⟩), .slice bo n c] w fun e w' => e = .returned (.int .i64 8) ∧ ∃ F', WritesAt w0 w' j p d F' wo nw cw B :=
  (write_full j p d F bo n c bs w h.jm.j hl hb hn ha).mono fun _ _ ⟨e, hd⟩ => ⟨e, h.did hd⟩
theorem sure_w (p : Nat) (d : Dsk) (F : List Nat) (S : Int) (w : World) (h : DiskAt 50 w p d F) (hS : (d.sure : Int) = S) :
    Calls Try.prog 19 #[.pointer (some ⟨p, 0, none⟩)] w fun e w' => e = .returned (.int .i64 S) ∧ w = w' := by
  subst hS; exact sure_any p d F w h
def HeadW (w0 w : World) (j p R : Nat) (v u : Value) : Prop := ∃ d F wo nw cw, v = .slice wo nw cw ∧ u = .int .i64 (d.sure : Int) ∧ WritesAt w0 w j p d F wo nw cw d.b ∧ d.room = R ∧ d.b.length = nw ∧ nw ≤ R
set_option maxHeartbeats 4000000 in
set_option maxRecDepth 100000 in
theorem journalWrites_any (R : Nat) (co : Option Addr) (N c : Nat) (es : List BEnt) (lo : Option Addr) (M e0 : Nat) (ls : List Bool) (w : World) (hR : R < 65536) (hl : es.length = N) (h1 : BytesRow w co es) (hN : N ≤ maxLen) (hl2 : ls.length = M) (h2 : RowOf w lo 1 (fun (b : Bool) cs => cs = [.bool b]) ls) (hM : M ≤ maxLen) :
    Calls Try.prog 7 #[.int .u16 (R : Int), .slice co N c, .slice lo M e0] w fun e w' => e = .returned (.bool true) ∧ Below w.heap.size w w' := by
  have HH := Lib.hid (And.intro hl (And.intro h1 (And.intro hl2 h2)))
  clear hl h1 hl2 h2
  unfold maxLen at hN hM
  go_enter Try.func7, Try.ntmps7
  go_wp2_with fail
  (with_reducible refine (awake _).mono ?_)
  rintro e0 w1 ⟨rfl, hw⟩
  have HW := Lib.hid hw
  clear hw
  have hRi : (R : Int) < 65536 := by omega
  have HR := Lib.hid (show R ≤ 16777216 by omega)
  go_wp2_with fail
  (with_reducible refine (new_m w (R : Int) R _ rfl HR.out HW.out).mono ?_)
  rintro e1 w2 ⟨p, rfl, hm1⟩
  have H1 := Lib.hid hm1
  clear hm1
  go_wp2_with fail
  (with_reducible refine (open_m w p _ _ [] [] _ H1.out recs_nil (by simp)).mono ?_)
  rintro e2 w3 ⟨j, oo, n3, cap3, es3, F3, rfl, hj3, _, _, _, _, _⟩
  have H3 := Lib.hid (show WritesAt w w3 j p ⟨R, 0, []⟩ F3 none 0 0 [] from ⟨hj3, Own.nil' _ _, by simp⟩)
  have HRB := Lib.hid hR
  clear hj3 hR hRi
  go_wp2
  go_loopg [12, 13, 37] N (fun g v u i wr => ∃ k : Nat, g + k = N ∧ i = .int .i64 k ∧ HeadW w wr j p R v u)
  case atStart => exact ⟨0, by omega, rfl, _, F3, none, 0, 0, rfl, rfl, H3.out, rfl, rfl, by omega⟩
  case round =>
    clear H3 H1 HW
    obtain ⟨k, hgk, rfl, d, F, wo, nw, cw, rfl, rfl, hWA, hroom, hdn, hnR⟩ := hrel
    have HA := Lib.hid (And.intro hWA (And.intro hroom hdn))
    clear hWA hroom hdn
    by_cases hkN : k < N
    · obtain ⟨e, he⟩ : ∃ e, es[k]? = some e := ⟨_, List.getElem?_eq_getElem (by rw [HH.out.1]; exact hkN)⟩
      obtain ⟨xb, xoff, rfl, c0, hbt⟩ := (HH.out.2.1.below HA.out.1.jm.below).at he
      have HE := Lib.hid (HH.out.2.1.2 e (List.mem_of_getElem? he))
      clear he hbt
      by_cases h40 : 40 < k
      · go_wp2
        go_ret
        exact ⟨rfl, HA.out.1.jm.below⟩
      by_cases h5000 : 5000 < e.bs.length
      · go_wp2
        go_ret
        exact ⟨rfl, HA.out.1.jm.below⟩
      go_upto_region 13 with fail
      go_cut [16] (fun v wx => wx = wr ∧ ∃ b : Bool, v = .bool b)
      case first =>
        by_cases hkM : k < M
        · obtain ⟨lb, loff, rfl, hl1⟩ := HH.out.2.2.2 (by rw [HH.out.2.2.1]; omega)
          have hkl : k < ls.length := by rw [HH.out.2.2.1]; exact hkM
          obtain ⟨cs, hcs, rfl, hcell⟩ := hl1 k hkl
          have d0 := (Chg.of_below HA.out.1.jm.below (fun _ => False)).cell (hcell 0 _ rfl) (fun h => h)
          simp only [Nat.add_zero, Nat.mul_one] at d0
          generalize ls[k]'hkl = b at *
          clear hl1 hcell hcs
          go_wp2
          go_meet
          exact ⟨rfl, _, rfl⟩
        · go_wp2
          go_meet
          exact ⟨rfl, _, rfl⟩
      case rest =>
        obtain ⟨hwx, lays, rfl⟩ := hcut
        subst hwx
        have HF0 := Lib.hid (show e.bs.length ≤ 100000 by omega)
        have HFL := Lib.hid (show (frame e.bs).length = e.bs.length + 8 from frame_len _)
        have hR6 := HRB.out
        have hwr := IntWalk.i64_in ((nw : Int) + ((e.bs.length : Int) + 8)) (by omega)
        have hw64 := IntWalk.wrap64_in (R : Int) (by omega)
        clear hR6
        go_wp2_with fail
        (with_reducible refine (refframe_big e.bo _ e.cap (e.bs.length + 8) e.bs _ rfl HF0.out (HE.out.below HA.out.1.jm.below) rfl).mono ?_)
        rintro e4 w4 ⟨fo, fc, rfl, hb4, hf4⟩
        have H4 := Lib.hid (And.intro (HA.out.1.stays hb4) hf4)
        clear hb4 hf4
        by_cases h4096 : 4096 < e.bs.length
        · have HM4 := Lib.hid (show e.bs.length ≤ 1000000 by omega)
          clear hwr hw64
          cases lays
          · -- BEGINW1
            go_wp2_with (go_at_call 11; (with_reducible refine (write_long j p d F e.bo _ e.cap _ H4.out.1.jm.j h4096 HM4.out).mono ?_); rintro e5 w9 ⟨rfl, rfl⟩)
            have H9 := Lib.hid H4.out.1
            have HLEN := Lib.hid (show (d : Dsk).b.length = nw by exact HA.out.2.2)
            have kx := conv_bytes w4.drew Try.underlying31 Try.underlying5 Try.underlying9 wo (nw) cw (d : Dsk).b HLEN.out H9.out.own.bts.drew
            have ks := str_alike (d : Dsk).b
            have H9D := Lib.hid (H9.out.stays (Below.refl _ w4).drew)
            go_region_with (first
              | (go_at_call 18; (with_reducible refine (bytes_any p _ F _ H9D.out.jm.j.disk).mono ?_); rintro e12 w12 ⟨bo2, bc2, rfl, hb12, ho12, _⟩; have y1 := conv_bytes w12 Try.underlying31 Try.underlying5 Try.underlying9 bo2 _ bc2 (d : Dsk).b rfl ho12.bts; have y2 := conv_bytes w12 Try.underlying31 Try.underlying5 Try.underlying9 wo (nw) cw (d : Dsk).b HLEN.out (H9D.out.own.bts.below hb12); have H12 := Lib.hid (H9D.out.stays hb12); clear hb12 ho12)
              | (go_at_call 19; (with_reducible refine (sure_w p _ F (d.sure : Int) _ H12.out.jm.j.disk rfl).mono ?_); rintro e13 w13 ⟨rfl, rfl⟩))
            all_goals (
              go_wp2
              go_roundg (gk - 1)
              case measure => omega
              case rel => exact ⟨k + 1, by omega, by go_num, _, F, wo, _, cw, rfl, rfl, H12.out, HA.out.2.1, HLEN.out, hnR⟩)
            -- ENDW1
          · -- BEGINL1
            go_wp2_with (go_at_call 12; (with_reducible refine (lay_long j p d F e.bo _ e.cap _ H4.out.1.jm.j h4096 HM4.out).mono ?_); rintro e5 w9 ⟨rfl, rfl⟩)
            have H9 := Lib.hid H4.out.1
            have HLEN := Lib.hid (show (d : Dsk).b.length = nw by exact HA.out.2.2)
            have kx := conv_bytes w4.drew Try.underlying31 Try.underlying5 Try.underlying9 wo (nw) cw (d : Dsk).b HLEN.out H9.out.own.bts.drew
            have ks := str_alike (d : Dsk).b
            have H9D := Lib.hid (H9.out.stays (Below.refl _ w4).drew)
            go_region_with (first
              | (go_at_call 18; (with_reducible refine (bytes_any p _ F _ H9D.out.jm.j.disk).mono ?_); rintro e12 w12 ⟨bo2, bc2, rfl, hb12, ho12, _⟩; have y1 := conv_bytes w12 Try.underlying31 Try.underlying5 Try.underlying9 bo2 _ bc2 (d : Dsk).b rfl ho12.bts; have y2 := conv_bytes w12 Try.underlying31 Try.underlying5 Try.underlying9 wo (nw) cw (d : Dsk).b HLEN.out (H9D.out.own.bts.below hb12); have H12 := Lib.hid (H9D.out.stays hb12); clear hb12 ho12)
              | (go_at_call 19; (with_reducible refine (sure_w p _ F (d.sure : Int) _ H12.out.jm.j.disk rfl).mono ?_); rintro e13 w13 ⟨rfl, rfl⟩))
            all_goals (
              go_wp2
              go_roundg (gk - 1)
              case measure => omega
              case rel => exact ⟨k + 1, by omega, by go_num, _, F, wo, _, cw, rfl, rfl, H12.out, HA.out.2.1, HLEN.out, hnR⟩)
            -- ENDL1
        · have h4i : e.bs.length ≤ 4096 := by clear hwr hw64; omega
          by_cases hfull : R < nw + (e.bs.length + 8)
          · have hfi : (R : Int) < (nw : Int) + ((e.bs.length : Int) + 8) := by clear hwr hw64; omega
            have HAP := Lib.hid (show d.append (frame e.bs) = (8, d) by rw [Dsk.append, if_pos (by rw [HFL.out, HA.out.2.1, HA.out.2.2]; clear hwr hw64; omega)])
            have HAF := Lib.hid (show d.room - d.b.length < e.bs.length + 8 by rw [HA.out.2.1, HA.out.2.2]; clear hwr hw64; omega)
            cases lays
            · -- BEGINW2
              go_wp2_with (go_at_call 11; (with_reducible refine (writef_w w j p d F wo nw cw d.b e.bo _ e.cap e.bs _ H4.out.1 rfl (HE.out.below H4.out.1.jm.below) h4i HAF.out).mono ?_); rintro e5 w9 ⟨rfl, F9, h9⟩; have H9 := Lib.hid h9; clear h9)
              clear hwr hw64
              have HLEN := Lib.hid (show (d : Dsk).b.length = nw by exact HA.out.2.2)
              have kx := conv_bytes w9.drew Try.underlying31 Try.underlying5 Try.underlying9 wo (nw) cw (d : Dsk).b HLEN.out H9.out.own.bts.drew
              have ks := str_alike (d : Dsk).b
              have H9D := Lib.hid (H9.out.stays (Below.refl _ w9).drew)
              go_region_with (first
                | (go_at_call 18; (with_reducible refine (bytes_any p _ F9 _ H9D.out.jm.j.disk).mono ?_); rintro e12 w12 ⟨bo2, bc2, rfl, hb12, ho12, _⟩; have y1 := conv_bytes w12 Try.underlying31 Try.underlying5 Try.underlying9 bo2 _ bc2 (d : Dsk).b rfl ho12.bts; have y2 := conv_bytes w12 Try.underlying31 Try.underlying5 Try.underlying9 wo (nw) cw (d : Dsk).b HLEN.out (H9D.out.own.bts.below hb12); have H12 := Lib.hid (H9D.out.stays hb12); clear hb12 ho12)
                | (go_at_call 19; (with_reducible refine (sure_w p _ F9 (d.sure : Int) _ H12.out.jm.j.disk rfl).mono ?_); rintro e13 w13 ⟨rfl, rfl⟩))
              all_goals (
                go_wp2
                go_roundg (gk - 1)
                case measure => omega
                case rel => exact ⟨k + 1, by omega, by go_num, _, F9, wo, _, cw, rfl, rfl, H12.out, HA.out.2.1, HLEN.out, hnR⟩)
              -- ENDW2
            · -- BEGINL2
              go_wp2_with (go_at_call 12; (with_reducible refine (lay_w w j p d d F wo nw cw d.b e.bo _ e.cap e.bs 8 _ H4.out.1 rfl (HE.out.below H4.out.1.jm.below) h4i HAP.out).mono ?_); rintro e5 w9 ⟨rfl, F9, h9⟩; have H9 := Lib.hid h9; clear h9)
              clear hwr hw64
              have HLEN := Lib.hid (show (d : Dsk).b.length = nw by exact HA.out.2.2)
              have kx := conv_bytes w9.drew Try.underlying31 Try.underlying5 Try.underlying9 wo (nw) cw (d : Dsk).b HLEN.out H9.out.own.bts.drew
              have ks := str_alike (d : Dsk).b
              have H9D := Lib.hid (H9.out.stays (Below.refl _ w9).drew)
              go_region_with (first
                | (go_at_call 18; (with_reducible refine (bytes_any p _ F9 _ H9D.out.jm.j.disk).mono ?_); rintro e12 w12 ⟨bo2, bc2, rfl, hb12, ho12, _⟩; have y1 := conv_bytes w12 Try.underlying31 Try.underlying5 Try.underlying9 bo2 _ bc2 (d : Dsk).b rfl ho12.bts; have y2 := conv_bytes w12 Try.underlying31 Try.underlying5 Try.underlying9 wo (nw) cw (d : Dsk).b HLEN.out (H9D.out.own.bts.below hb12); have H12 := Lib.hid (H9D.out.stays hb12); clear hb12 ho12)
                | (go_at_call 19; (with_reducible refine (sure_w p _ F9 (d.sure : Int) _ H12.out.jm.j.disk rfl).mono ?_); rintro e13 w13 ⟨rfl, rfl⟩))
              all_goals (
                go_wp2
                go_roundg (gk - 1)
                case measure => omega
                case rel => exact ⟨k + 1, by omega, by go_num, _, F9, wo, _, cw, rfl, rfl, H12.out, HA.out.2.1, HLEN.out, hnR⟩)
              -- ENDL2
          · have hfi : (nw : Int) + ((e.bs.length : Int) + 8) ≤ (R : Int) := by clear hwr hw64; omega
            have HAF := Lib.hid (show e.bs.length + 8 ≤ d.room - d.b.length by rw [HA.out.2.1, HA.out.2.2]; clear hwr hw64; omega)
            have HAP := Lib.hid (show d.append (frame e.bs) = (0, ⟨d.room, d.sure, d.b ++ frame e.bs⟩) by rw [Dsk.append, if_neg (by rw [HFL.out]; have := HAF.out; clear hwr hw64; omega)])
            have hR6 := HRB.out
            have HB1 := Lib.hid (And.intro (show nw + (e.bs.length + 8) ≤ maxLen by unfold maxLen; clear hwr hw64; omega) (show (nw + (e.bs.length + 8)) * 1 ≤ 140737488355328 by clear hwr hw64; omega))
            have hnR2 : nw + (e.bs.length + 8) ≤ R := by clear hwr hw64; omega
            clear hR6
            cases lays
            · -- BEGINW3
              obtain ⟨d9, hd9⟩ : ∃ d9 : Dsk, ⟨d.room, (d.b ++ frame e.bs).length, d.b ++ frame e.bs⟩ = d9 := ⟨_, rfl⟩
              have HD9 := Lib.hid (And.intro hd9 (And.intro (show d.b ++ frame e.bs = d9.b by rw [← hd9]) (And.intro (show d9.room = R by rw [← hd9]; exact HA.out.2.1) (And.intro (show d9.b.length = nw + (e.bs.length + 8) by rw [← hd9]; dsimp only; rw [List.length_append, HFL.out, HA.out.2.2]) (show (d9.sure : Int) = ((nw : Int) + ((e.bs.length : Int) + 8)) by rw [← hd9]; dsimp only; rw [List.length_append, HFL.out, HA.out.2.2]; push_cast; rfl)))))
              clear hd9
              go_wp2_with (first
                | (at_builtin; refine wpList_append' rfl (.tmp 61) (.tmp 62) el_u8 rfl rfl rfl H4.out.1.own (m := e.bs.length + 8) (news := (frame e.bs).map cb) (by rw [List.length_map, HFL.out, Nat.mul_one]) H4.out.2 (one_cb _) HB1.out.1 HB1.out.2 ?_; intro yo yc w5 hx hch _ hx2; have H5 := Lib.hid (H4.out.1.grow hx hch hx2); clear hx hch hx2)
                | (go_at_call 11; (with_reducible refine (write_w w j p d d9 F yo (nw + (e.bs.length + 8)) yc (d.b ++ frame e.bs) e.bo _ e.cap e.bs _ H5.out rfl (HE.out.below H5.out.jm.below) h4i HAF.out HD9.out.1).mono ?_); rintro e6 w9 ⟨rfl, F9, h9⟩; rw [HD9.out.2.1] at h9; have H9 := Lib.hid h9; clear h9))
              clear hwr hw64
              have kx := conv_bytes w9.drew Try.underlying31 Try.underlying5 Try.underlying9 yo (nw + (e.bs.length + 8)) yc d9.b HD9.out.2.2.2.1 H9.out.own.bts.drew
              have ks := str_alike d9.b
              have H9D := Lib.hid (H9.out.stays (Below.refl _ w9).drew)
              go_region_with (first
                | (go_at_call 18; (with_reducible refine (bytes_any p _ F9 _ H9D.out.jm.j.disk).mono ?_); rintro e12 w12 ⟨bo2, bc2, rfl, hb12, ho12, _⟩; have y1 := conv_bytes w12 Try.underlying31 Try.underlying5 Try.underlying9 bo2 _ bc2 d9.b rfl ho12.bts; have y2 := conv_bytes w12 Try.underlying31 Try.underlying5 Try.underlying9 yo (nw + (e.bs.length + 8)) yc d9.b HD9.out.2.2.2.1 (H9D.out.own.bts.below hb12); have H12 := Lib.hid (H9D.out.stays hb12); clear hb12 ho12)
                | (go_at_call 19; (with_reducible refine (sure_w p _ F9 ((nw : Int) + ((e.bs.length : Int) + 8)) _ H12.out.jm.j.disk HD9.out.2.2.2.2).mono ?_); rintro e13 w13 ⟨rfl, rfl⟩))
              all_goals (
                go_wp2
                go_roundg (gk - 1)
                case measure => omega
                case rel => exact ⟨k + 1, by omega, by go_num, _, F9, yo, _, yc, rfl, by rw [HD9.out.2.2.2.2], H12.out, HD9.out.2.2.1, HD9.out.2.2.2.1, hnR2⟩)
              -- ENDW3
            · -- BEGINL3
              obtain ⟨d9, hd9⟩ : ∃ d9 : Dsk, ⟨d.room, d.sure, d.b ++ frame e.bs⟩ = d9 := ⟨_, rfl⟩
              have HD9 := Lib.hid (And.intro hd9 (And.intro (show d.b ++ frame e.bs = d9.b by rw [← hd9]) (And.intro (show d9.room = R by rw [← hd9]; exact HA.out.2.1) (And.intro (show d9.b.length = nw + (e.bs.length + 8) by rw [← hd9]; dsimp only; rw [List.length_append, HFL.out, HA.out.2.2]) (show (d9.sure : Int) = (d.sure : Int) by rw [← hd9])))))
              have HAP9 := Lib.hid (show d.append (frame e.bs) = (0, d9) by rw [← hd9]; exact HAP.out)
              clear hd9
              go_wp2_with (first
                | (at_builtin; refine wpList_append' rfl (.tmp 61) (.tmp 62) el_u8 rfl rfl rfl H4.out.1.own (m := e.bs.length + 8) (news := (frame e.bs).map cb) (by rw [List.length_map, HFL.out, Nat.mul_one]) H4.out.2 (one_cb _) HB1.out.1 HB1.out.2 ?_; intro yo yc w5 hx hch _ hx2; have H5 := Lib.hid (H4.out.1.grow hx hch hx2); clear hx hch hx2)
                | (go_at_call 12; (with_reducible refine (lay_w w j p d d9 F yo (nw + (e.bs.length + 8)) yc (d.b ++ frame e.bs) e.bo _ e.cap e.bs 0 _ H5.out rfl (HE.out.below H5.out.jm.below) h4i HAP9.out).mono ?_); rintro e6 w9 ⟨rfl, F9, h9⟩; rw [HD9.out.2.1] at h9; have H9 := Lib.hid h9; clear h9))
              clear hwr hw64
              have kx := conv_bytes w9.drew Try.underlying31 Try.underlying5 Try.underlying9 yo (nw + (e.bs.length + 8)) yc d9.b HD9.out.2.2.2.1 H9.out.own.bts.drew
              have ks := str_alike d9.b
              have H9D := Lib.hid (H9.out.stays (Below.refl _ w9).drew)
              go_region_with (first
                | (go_at_call 18; (with_reducible refine (bytes_any p _ F9 _ H9D.out.jm.j.disk).mono ?_); rintro e12 w12 ⟨bo2, bc2, rfl, hb12, ho12, _⟩; have y1 := conv_bytes w12 Try.underlying31 Try.underlying5 Try.underlying9 bo2 _ bc2 d9.b rfl ho12.bts; have y2 := conv_bytes w12 Try.underlying31 Try.underlying5 Try.underlying9 yo (nw + (e.bs.length + 8)) yc d9.b HD9.out.2.2.2.1 (H9D.out.own.bts.below hb12); have H12 := Lib.hid (H9D.out.stays hb12); clear hb12 ho12)
                | (go_at_call 19; (with_reducible refine (sure_w p _ F9 (d.sure : Int) _ H12.out.jm.j.disk HD9.out.2.2.2.2).mono ?_); rintro e13 w13 ⟨rfl, rfl⟩))
              all_goals (
                go_wp2
                go_roundg (gk - 1)
                case measure => omega
                case rel => exact ⟨k + 1, by omega, by go_num, _, F9, yo, _, yc, rfl, by rw [HD9.out.2.2.2.2], H12.out, HD9.out.2.2.1, HD9.out.2.2.2.1, hnR2⟩)
              -- ENDL3
    · go_wp2
      go_ret
      exact ⟨rfl, HA.out.1.jm.below⟩
theorem journalWrites_in (W : World) (base : Nat) (v0 v1 v2 : Value) (k0 : Value.okWide Try.prog W .any base 40 v0) (k1 : Value.okWide Try.prog W .any base 22 v1) (k2 : Value.okWide Try.prog W .any base 46 v2)
    (r0 : Rd Try.prog W 40 v0.cells.toList) (r1 : Rd Try.prog W 22 v1.cells.toList) (r2 : Rd Try.prog W 46 v2.cells.toList) :
    Calls Try.prog 7 #[v0, v1, v2] W fun e w' => e = .returned (.bool true) ∧ Below W.heap.size W w' := by
  obtain ⟨R, rfl, hR⟩ := in_u16 Try.underlying40 k0 r0
  obtain ⟨ao, es, c, rfl, h1, h2, h3⟩ := in_slice Try.underlying22 (size := 1) (by kernel_rfl) (by decide) (EntIs W) (fun _ h => ent_rd h) k1 r1
  obtain ⟨bo, fs, d, rfl, g1, g2, g3⟩ := in_slice Try.underlying46 (size := 1) (by kernel_rfl) (by decide) (fun (b : Bool) cs => cs = [.bool b]) (fun _ h => h.bool Try.underlying4) k2 r2
  exact journalWrites_any R ao _ c es bo _ d fs W hR rfl (row_ents h1) (Nat.le_trans h2 h3) rfl g1 (Nat.le_trans g2 g3)
end Go.Proofs.Ytggidllaodloiaa
