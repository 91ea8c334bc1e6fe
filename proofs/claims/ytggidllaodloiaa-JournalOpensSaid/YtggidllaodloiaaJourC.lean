/-
  THE LAW JournalCrash OF LAYER 5, WALKED.
-/
import Derived.Test.YtggidllaodloiaaJourM
namespace Go.Proofs.Ytggidllaodloiaa
open Go Go.RowKit

theorem str_alike (bs : List UInt8) : ((strOf bs).toList == (strOf bs).toList) = true := by simp
/-- Bytes of the arguments. -/
def EntIs (w : World) (e : BEnt) (cs : List Value) : Prop := cs = [e.cell] ∧ Bts w e.bo e.bs
theorem ent_rd {w : World} {cs : List Value} (h : Rd Try.prog w 31 cs) : ∃ e, EntIs w e cs := by
  obtain ⟨ao, bs, c, e, _, _, _, hb⟩ := h.bytes Try.underlying31 Try.underlying5 (by kernel_rfl)
  exact ⟨⟨bs, ao, c⟩, e, hb⟩
theorem row_ents {w : World} {ao : Option Addr} {es : List BEnt} (h : RowOf w ao 1 (EntIs w) es) : BytesRow w ao es := by
  refine ⟨fun hne => ?_, fun e he => ?_⟩
  · have h0 : 0 < es.length := by cases es with | nil => exact absurd rfl hne | cons => simp
    obtain ⟨b, off, rfl, h1⟩ := h h0
    refine ⟨b, off, rfl, fun i v hv => ?_⟩
    rw [List.getElem?_map] at hv
    cases hx : es[i]? with
    | none => rw [hx] at hv; cases hv
    | some e =>
      rw [hx] at hv
      cases hv
      obtain ⟨hlt, he⟩ := List.getElem?_eq_some_iff.1 hx
      obtain ⟨cs, hcs, ⟨rfl, _⟩, hc⟩ := h1 i hlt
      have := hc 0 _ rfl
      rw [he] at this
      simpa using this
  · obtain ⟨i, hlt, he⟩ := List.mem_iff_getElem.1 he
    obtain ⟨b, off, rfl, h1⟩ := h (by omega)
    obtain ⟨cs, hcs, ⟨_, hb⟩, _⟩ := h1 i hlt
    rw [he] at hb
    exact hb
/-- The disk behind k records: written first, then laid. -/
def dskAt (es fs : List BEnt) (k : Nat) : Dsk :=
  ⟨1048576, (frames ((es.take k).map BEnt.bs)).length, frames ((es.take k).map BEnt.bs) ++ frames ((fs.take (k - es.length)).map BEnt.bs)⟩
theorem dskAt_w {es fs : List BEnt} {k : Nat} {e : BEnt} (h : es[k]? = some e) : (⟨(dskAt es fs k).room, ((dskAt es fs k).b ++ frame e.bs).length, (dskAt es fs k).b ++ frame e.bs⟩ : Dsk) = dskAt es fs (k + 1) := by
  have hk := (List.getElem?_eq_some_iff.1 h).1
  have e1 : k - es.length = 0 := by omega
  have e2 : k + 1 - es.length = 0 := by omega
  unfold dskAt
  dsimp only
  rw [e1, e2, List.take_zero, List.map_nil, show frames [] = [] from rfl, List.append_nil, List.append_nil, List.take_add_one, h, List.map_append, frames_app]
  simp [frames]
theorem dskAt_l {es fs : List BEnt} {k : Nat} {e : BEnt} (hk : es.length ≤ k) (h : fs[k - es.length]? = some e) : (⟨(dskAt es fs k).room, (dskAt es fs k).sure, (dskAt es fs k).b ++ frame e.bs⟩ : Dsk) = dskAt es fs (k + 1) := by
  unfold dskAt
  dsimp only
  rw [List.take_of_length_le hk, List.take_of_length_le (show es.length ≤ k + 1 by omega), show k + 1 - es.length = (k - es.length) + 1 by omega, List.take_add_one, h, List.map_append, frames_app, List.append_assoc]
  simp [frames]
theorem frames_len1000 : ∀ (l : List (List UInt8)), (∀ x ∈ l, x.length ≤ 1000) → (frames l).length ≤ 1008 * l.length
  | [], _ => by simp [frames]
  | x :: l, h => by
    have h1 := frames_len1000 l (fun y hy => h y (by simp [hy]))
    have h2 := h x (by simp)
    rw [frames_cons, List.length_append, frame_len, List.length_cons]
    omega
theorem take_two (es fs : List BEnt) (k : Nat) : (es ++ fs).take k = es.take k ++ fs.take (k - es.length) := List.take_append ..
theorem dskAt_len {es fs : List BEnt} {k : Nat} (h : ∀ e ∈ (es ++ fs).take k, e.bs.length ≤ 1000) (hk : k ≤ 60) : (dskAt es fs k).b.length ≤ 60480 := by
  have e1 : (dskAt es fs k).b = frames (((es ++ fs).take k).map BEnt.bs) := by rw [take_two, List.map_append, frames_app]; rfl
  have h1 := frames_len1000 (((es ++ fs).take k).map BEnt.bs) (fun x hx => by obtain ⟨e, he, rfl⟩ := List.mem_map.1 hx; exact h e he)
  rw [e1]
  rw [List.length_map, List.length_take] at h1
  omega
/-- What holds at a round's head. -/
def CrashAt (w0 w : World) (j p : Nat) (es fs : List BEnt) (xo : Option Addr) (xc k : Nat) (v u : Value) : Prop :=
  ∃ ao ac F, v = .slice ao k ac ∧ u = .int .i64 ((min k es.length : Nat) : Int) ∧ JM w0 w j p (dskAt es fs k) F ∧ Bodies w xo (es.length + fs.length) xc (es ++ fs) F ∧ Bodies w ao k ac ((es ++ fs).take k) F ∧
    (∀ a, ao = some a → w0.heap.size ≤ a.block ∧ a.block ≠ j ∧ ∀ b, xo = some b → a.block ≠ b.block) ∧ ∀ e ∈ (es ++ fs).take k, e.bs.length ≤ 1000
theorem crash_step {w0 w w1 w2 : World} {j p : Nat} {es fs : List BEnt} {xo ao zo : Option Addr} {xc k ac zc : Nat} {F F1 : List Nat} {e : BEnt} {o : Obj} (hB : Bodies w xo (es.length + fs.length) xc (es ++ fs) F) (hA : Bodies w ao k ac ((es ++ fs).take k) F)
    (hap : ∀ a, ao = some a → w0.heap.size ≤ a.block ∧ a.block ≠ j ∧ ∀ b, xo = some b → a.block ≠ b.block) (hsh : ∀ e ∈ (es ++ fs).take k, e.bs.length ≤ 1000) (he : (es ++ fs)[k]? = some e) (hel : e.bs.length ≤ 1000) (hw : Below w0.heap.size w0 w)
    (hJ : JM w0 w1 j p (dskAt es fs (k + 1)) F1) (hc : Chg (· ∈ F) w w1) (hg : Grew w F F1) (hall : ∀ x ∈ es ++ fs, Bts w0 x.bo x.bs)
    (hx : Own w2 1 zo (k + 1) zc (((es ++ fs).take k).map BEnt.cell ++ [e.cell])) (hch : Chg (fun i => ∃ a, ao = some a ∧ a.block = i) (w1.alloc o) w2) (hx2 : ∀ a', zo = some a' → ao = some a' ∨ (w1.alloc o).heap.size ≤ a'.block) :
    CrashAt w0 w2 j p es fs xo xc (k + 1) (.slice zo (k + 1) zc) (.int .i64 ((min (k + 1) es.length : Nat) : Int)) := by
  have he0 := hall e (List.mem_of_getElem? he)
  have hB1 := hB.other hc hg
  have hA1 := hA.other hc hg
  have htk : (es ++ fs).take (k + 1) = (es ++ fs).take k ++ [e] := by rw [List.take_add_one, he]; rfl
  have hlt : ∀ a, e.bs ≠ [] → e.bo = some a → a.block < w0.heap.size := fun a hz ha => bts_lt he0 hz a ha
  have hF1 : ∀ i ∈ F1, i < w1.heap.size := hJ.j.disk.lt
  have hsz : w1.heap.size ≤ (w1.alloc o).heap.size := by rw [size_alloc]; omega
  have hS := Bodies.snoc (e := e) hA1 hF1 (he0.below hJ.below) (fun hz a ha => ⟨fun hk => by have := hJ.own _ hk; have := hlt a hz ha; omega, fun b hb q => by have := (hap b hb).1; have := hlt a hz ha; omega⟩) hx hch hx2
  have hC : Chg (fun i => ∃ a, ao = some a ∧ a.block = i) w1 w2 := ((Chg.refl (fun i => ∃ a, ao = some a ∧ a.block = i) w1).alloc o).trans hch (fun _ _ h => h)
  rw [← htk] at hS
  refine ⟨zo, zc, F1, rfl, rfl, hJ.keep hC (fun i hi ⟨a, ha, q⟩ => hA1.at_ a ha (q ▸ hi)) (fun ⟨a, ha, q⟩ => (hap a ha).2.1 q) (fun i ⟨a, ha, q⟩ => q ▸ (hap a ha).1), hB1.keep hC (fun b hb ⟨a, ha, q⟩ => (hap a ha).2.2 b hb q) (fun x hx hz b hb ⟨a, ha, q⟩ => ?_), hS, fun a ha => ?_, ?_⟩
  · have h1 := (hap a ha).1
    have h2 := bts_lt (hall x hx) hz b hb
    omega
  · rcases hx2 a ha with h | h
    · exact hap a h
    · refine ⟨Nat.le_trans hJ.below.size (Nat.le_trans hsz h), fun q => ?_, fun b hb q => ?_⟩
      · have := heap_lt hJ.j.jr; omega
      · have := (hB1.own.at_ b hb).2.1; omega
  · rw [htk]
    intro x hx
    rcases List.mem_append.1 hx with hx | hx
    · exact hsh x hx
    · rw [List.mem_singleton] at hx; subst hx; exact hel
theorem crash_start {w0 w3 w4 w5 : World} {j p N xc : Nat} {d : Dsk} {F : List Nat} {yo xo : Option Addr} {gs : List BEnt} (h3 : JM w0 w3 j p d F) (hb : Below w3.heap.size w3 w4) (hy : ∀ a, yo = some a → w3.heap.size ≤ a.block)
    (hx : Own w5 1 xo N xc (gs.map BEnt.cell)) (hch : Chg (fun k => ∃ a, yo = some a ∧ a.block = k) w4 w5) (hx2 : ∀ a, xo = some a → yo = some a ∨ w4.heap.size ≤ a.block) (hall : ∀ x ∈ gs, Bts w0 x.bo x.bs) : JM w0 w5 j p d F ∧ Bodies w5 xo N xc gs F := by
  have h4 := h3.stays hb
  have hF := h3.j.disk.lt
  have hjl := heap_lt h3.j.jr
  have hs := h3.below.size
  have h5 := h4.keep hch (fun k hk ⟨a, ha, q⟩ => by have := hF k hk; have := hy a ha; omega) (fun ⟨a, ha, q⟩ => by have := hy a ha; omega) (fun k ⟨a, ha, q⟩ => by have := hy a ha; omega)
  have hxn : ∀ a, xo = some a → w3.heap.size ≤ a.block := fun a ha => (hx2 a ha).elim (hy a) (Nat.le_trans hb.size)
  refine ⟨h5, hx, fun a ha hk => by have := hF _ hk; have := hxn a ha; omega, fun x hx => (hall x hx).below h5.below, fun x hx hz a ha => ?_⟩
  have h6 := bts_lt (hall x hx) hz a ha
  exact ⟨fun hk => by have := h3.own _ hk; omega, fun b hb q => by have := hxn b hb; omega⟩
theorem crash_zero {w0 w : World} {j p xc : Nat} {es fs : List BEnt} {F : List Nat} {xo : Option Addr} (h : JM w0 w j p ⟨1048576, 0, []⟩ F) (hB : Bodies w xo (es.length + fs.length) xc (es ++ fs) F) : CrashAt w0 w j p es fs xo xc 0 (.slice none 0 0) (.int .i64 0) := by
  refine ⟨none, 0, F, rfl, by simp, by simpa [dskAt, frames] using h, hB, ⟨by simpa using Own.nil' w 1, by simp, by simp, by simp⟩, by simp, by simp⟩
set_option maxHeartbeats 4000000 in
set_option maxRecDepth 100000 in
theorem journalCrash_any (ao : Option Addr) (n c : Nat) (es : List BEnt) (bo : Option Addr) (m d : Nat) (fs : List BEnt) (keep bit : Int) (w : World) (hl1 : es.length = n) (h1 : BytesRow w ao es) (hn : n ≤ maxLen) (hl2 : fs.length = m) (h2 : BytesRow w bo fs) (hm : m ≤ maxLen)
    (hk : -9223372036854775808 ≤ keep ∧ keep ≤ 9223372036854775807) :
    Calls Try.prog 3 #[.slice ao n c, .slice bo m d, .int .i64 keep, .int .i64 bit] w fun e w' => e = .returned (.bool true) ∧ Below w.heap.size w w' := by
  subst hl1 hl2
  have HH := Lib.hid (And.intro h1 (And.intro h2 hk))
  have HALL := Lib.hid (show ∀ x ∈ es ++ fs, Bts w x.bo x.bs from fun x hx => (List.mem_append.1 hx).elim (h1.2 x) (h2.2 x))
  clear h1 h2 hk
  unfold maxLen at hn hm
  go_enter Try.func3, Try.ntmps3
  go_wp2_with fail
  (with_reducible refine (awake _).mono ?_)
  rintro e0 w1 ⟨rfl, hw⟩
  have HW := Lib.hid hw
  clear hw
  go_wp2_with fail
  (with_reducible refine (new_m w 1048576 1048576 _ rfl (by decide) HW.out).mono ?_)
  rintro e1 w2 ⟨p, rfl, hm1⟩
  have H1 := Lib.hid hm1
  clear hm1
  go_wp2_with fail
  (with_reducible refine (open_m w p _ _ [] [] _ H1.out recs_nil (by decide)).mono ?_)
  rintro e2 w3 ⟨j, oo, n3, cap3, es3, F3, rfl, hj3, _, _, _, _, _⟩
  have H3 := Lib.hid (show JM w w3 j p ⟨1048576, 0, []⟩ F3 from hj3)
  clear hj3
  by_cases hn30 : 30 < es.length
  · go_wp2
    go_ret
    exact ⟨rfl, H3.out.below⟩
  by_cases hm30 : 30 < fs.length
  · go_wp2
    go_ret
    exact ⟨rfl, H3.out.below⟩
  have hb3 := Lib.hid (H3.out.alloc (.cells #[] 31))
  go_wp2_with (first
    | (at_builtin; refine wpList_append' rfl (.tmp 47) (.tmp 48) el_bs rfl rfl rfl (Own.alloc0 _ 1 _ _) (by rw [List.length_map, Nat.mul_one]) (HH.out.1.below hb3.out.below).1 (one_ent es) (by unfold maxLen; omega) (by omega) ?_; intro yo yc w4 hx hch _ hx2; simp only [Nat.zero_add, List.nil_append] at hx; have hb4 := chg_new (Below.refl _ _) hch; have H4 := Lib.hid (And.intro hx (And.intro (H3.out.stays hb4) (And.intro hb4 (new_blk (Below.refl _ _) hx2)))); clear hx hch hx2 hb4)
    | (at_builtin; refine wpList_append' rfl (.tmp 49) (.tmp 50) el_bs rfl rfl rfl H4.out.1 (m := fs.length) (news := fs.map BEnt.cell) (by rw [List.length_map, Nat.mul_one]) (HH.out.2.1.below H4.out.2.1.below).1 (one_ent fs) (by unfold maxLen; omega) (by omega) ?_; intro xo xc w5 hx hch _ hx2; rw [← List.map_append] at hx; have H5 := Lib.hid (And.intro hx (And.intro hch hx2)); clear hx hch hx2))
  have hst := crash_start (gs := es ++ fs) H3.out H4.out.2.2.1 H4.out.2.2.2 H5.out.1 H5.out.2.1 H5.out.2.2 HALL.out
  have HS := Lib.hid (crash_zero (es := es) (fs := fs) hst.1 hst.2)
  clear hst
  obtain ⟨N, hN⟩ : ∃ N, N = es.length + fs.length := ⟨_, rfl⟩
  have HN := Lib.hid hN
  have hN60 : N ≤ 60 := by omega
  go_loopg [14, 15, 53] (es.length + fs.length) (fun g v u i wr => ∃ k : Nat, g + k = es.length + fs.length ∧ i = .int .i64 k ∧ CrashAt w wr j p es fs xo xc k v u)
  case atStart => exact ⟨0, by omega, rfl, HS.out⟩
  case round =>
    clear HS H5 H4 hb3 H3 H1 HW
    obtain ⟨k, hgk, rfl, zo, zc, F, rfl, rfl, hJ, hB, hA, hap, hsh⟩ := hrel
    have HR := Lib.hid (And.intro hJ (And.intro hB (And.intro hA (And.intro hap hsh))))
    clear hJ hB hA hap hsh
    by_cases hkN : k < es.length + fs.length
    · obtain ⟨e, he⟩ : ∃ e, (es ++ fs)[k]? = some e := ⟨_, List.getElem?_eq_getElem (by rw [List.length_append]; exact hkN)⟩
      obtain ⟨xb, xoff, rfl, c0, hbt⟩ := HR.out.2.1.row.at he
      have HE := Lib.hid (And.intro he hbt)
      clear he hbt
      by_cases h1000 : 1000 < e.bs.length
      · go_wp2
        go_ret
        exact ⟨rfl, HR.out.1.below⟩
      · have hel : e.bs.length ≤ 4096 := by omega
        have hdl := dskAt_len HR.out.2.2.2.2 (by omega)
        have HD := Lib.hid (show e.bs.length + 8 ≤ (dskAt es fs k).room - (dskAt es fs k).b.length by have : (dskAt es fs k).room = 1048576 := rfl; omega)
        clear hdl
        by_cases hkn : k < es.length
        · have hmin : min k es.length = k := by omega
          have hmin2 : min (k + 1) es.length = k + 1 := by omega
          have he' : es[k]? = some e := by have := HE.out.1; rwa [List.getElem?_append_left hkn] at this
          have HDW := Lib.hid (And.intro (dskAt_w (fs := fs) he') hmin2)
          rw [hmin]
          clear hmin hmin2 he'
          go_wp2_with (first
            | (go_at_call 11; (with_reducible refine (write_m w j p _ (dskAt es fs (k + 1)) F e.bo _ e.cap e.bs _ HR.out.1 rfl HE.out.2 hel HD.out HDW.out.1).mono ?_); rintro e6 w6 ⟨rfl, F6, g1, g2, g3⟩; have H6 := Lib.hid (And.intro g1 (And.intro g2 g3)); have HA6 := Lib.hid ((HR.out.2.2.1.other g2 g3).own.keep ((Chg.refl (fun _ => False) w6).alloc (.cells #[.slice e.bo e.bs.length e.cap] 31)) (fun _ _ h => h)); clear g1 g2 g3)
            | (at_builtin; refine wpList_append' rfl (.tmp 73) (.tmp 75) el_bs rfl rfl rfl HA6.out (m := 1) (news := [e.cell]) rfl (Row.alloc w6 #[.slice e.bo e.bs.length e.cap] 31 (0, 0)) (one_ent [e]) (by unfold maxLen; omega) (by omega) ?_; intro yo' yc' w7 hx hch _ hx2; have H7 := Lib.hid (And.intro hx (And.intro hch hx2)); clear hx hch hx2))
          go_roundg (gk - 1)
          case measure => omega
          case rel =>
            have hst := crash_step HR.out.2.1 HR.out.2.2.1 HR.out.2.2.2.1 HR.out.2.2.2.2 HE.out.1 (by omega) HR.out.1.below H6.out.1 H6.out.2.1 H6.out.2.2 HALL.out H7.out.1 H7.out.2.1 H7.out.2.2
            refine ⟨k + 1, by omega, by go_num, ?_⟩
            have h2 := HDW.out.2
            rw [h2] at hst
            exact hst
        · have hmin : min k es.length = es.length := by omega
          have hmin2 : min (k + 1) es.length = es.length := by omega
          have he' : fs[k - es.length]? = some e := by have := HE.out.1; rwa [List.getElem?_append_right (by omega)] at this
          have HDW := Lib.hid (And.intro (dskAt_l (by omega) he') hmin2)
          rw [hmin]
          clear hmin hmin2 he'
          go_wp2_with (first
            | (go_at_call 12; (with_reducible refine (lay_m w j p _ (dskAt es fs (k + 1)) F e.bo _ e.cap e.bs _ HR.out.1 rfl HE.out.2 hel HD.out HDW.out.1).mono ?_); rintro e6 w6 ⟨rfl, F6, g1, g2, g3⟩; have H6 := Lib.hid (And.intro g1 (And.intro g2 g3)); have HA6 := Lib.hid ((HR.out.2.2.1.other g2 g3).own.keep ((Chg.refl (fun _ => False) w6).alloc (.cells #[.slice e.bo e.bs.length e.cap] 31)) (fun _ _ h => h)); clear g1 g2 g3)
            | (at_builtin; refine wpList_append' rfl (.tmp 73) (.tmp 75) el_bs rfl rfl rfl HA6.out (m := 1) (news := [e.cell]) rfl (Row.alloc w6 #[.slice e.bo e.bs.length e.cap] 31 (0, 0)) (one_ent [e]) (by unfold maxLen; omega) (by omega) ?_; intro yo' yc' w7 hx hch _ hx2; have H7 := Lib.hid (And.intro hx (And.intro hch hx2)); clear hx hch hx2))
          go_roundg (gk - 1)
          case measure => omega
          case rel =>
            have hst := crash_step HR.out.2.1 HR.out.2.2.1 HR.out.2.2.2.1 HR.out.2.2.2.2 HE.out.1 (by omega) HR.out.1.below H6.out.1 H6.out.2.1 H6.out.2.2 HALL.out H7.out.1 H7.out.2.1 H7.out.2.2
            refine ⟨k + 1, by omega, by go_num, ?_⟩
            have h2 := HDW.out.2
            rw [h2] at hst
            exact hst
    · obtain rfl : k = es.length + fs.length := by omega
      have hmin : min (es.length + fs.length) es.length = es.length := by omega
      rw [hmin]
      clear hmin hkN
      have hd0 : dskAt es fs (es.length + fs.length) = ⟨1048576, (frames (es.map BEnt.bs)).length, frames (es.map BEnt.bs) ++ frames (fs.map BEnt.bs)⟩ := by
        unfold dskAt
        rw [List.take_of_length_le (by omega), List.take_of_length_le (by omega)]
      have hdl := dskAt_len HR.out.2.2.2.2 (by omega)
      have hall4 : ∀ x ∈ es ++ fs, x.bs.length ≤ 4096 := by
        intro x hx
        have := HR.out.2.2.2.2 x (by rw [List.take_of_length_le (by rw [List.length_append]; exact Nat.le_refl _)]; exact hx)
        omega
      obtain ⟨k', r', hk', hrec, hcl, _⟩ := crash_recs 1048576 (es.map BEnt.bs) (fs.map BEnt.bs) keep bit (fun x hx => by obtain ⟨e, he, rfl⟩ := List.mem_map.1 hx; exact hall4 e (by simp [he])) (fun x hx => by obtain ⟨e, he, rfl⟩ := List.mem_map.1 hx; exact hall4 e (by simp [he]))
      rw [List.length_map] at hk'
      rw [hd0] at hdl
      dsimp only at hdl
      have hJ0 := HR.out.1
      rw [hd0] at hJ0
      have HJ := Lib.hid hJ0
      have HC := Lib.hid (And.intro hrec (show (Dsk.crash ⟨1048576, (frames (es.map BEnt.bs)).length, frames (es.map BEnt.bs) ++ frames (fs.map BEnt.bs)⟩ keep bit).b.length ≤ 1000000 by omega))
      clear hd0 hdl hall4 hrec hcl hJ0
      go_wp2_with fail
      (with_reducible refine (crash_m w j p _ F keep bit _ HJ.out HH.out.2.2).mono ?_)
      rintro e6 w6 ⟨rfl, F6, g1, g2, g3⟩
      have H6 := Lib.hid (And.intro g1 ((HR.out.2.2.1.other g2 g3)))
      clear g1 g2 g3
      go_wp2_with fail
      (with_reducible refine (open_m w p _ F6 _ r' _ H6.out.1.mine HC.out.1 HC.out.2).mono ?_)
      rintro e7 w7 ⟨j7, o7, n7, c7, es7, F7, rfl, g1, g2, g3, g4, g5, _⟩
      have hn7 : n7 = es.length + k' := by
        have h1 := g2.len
        have h2 := congrArg List.length g3
        rw [List.length_map, List.length_append, List.length_map, List.length_take, List.length_map] at h2
        omega
      have hA7 := H6.out.2.other g4 g5
      have hzc := hA7.own.le
      have H7 := Lib.hid (And.intro g1 (And.intro g2 (And.intro hA7 (show es7.map BEnt.bs = (((es ++ fs).take (es.length + fs.length)).take n7).map BEnt.bs by
        rw [g3, List.take_take, Nat.min_eq_left (show n7 ≤ es.length + fs.length by omega), take_two, hn7, Nat.add_sub_cancel_left, show es.take (es.length + k') = es from List.take_of_length_le (by omega), List.map_append, List.map_take]))))
      have HTL := Lib.hid (show (((es ++ fs).take (es.length + fs.length)).take n7).length = n7 by rw [List.length_take, List.length_take, List.length_append]; omega)
      have i1 : (es.length : Int) ≤ (n7 : Int) := by omega
      have i2 : (n7 : Int) ≤ (es.length : Int) + (fs.length : Int) := by omega
      have i3 : (n7 : Int) ≤ (zc : Int) := by omega
      have i4 : n7 ≤ 1000000 := by omega
      have i5 : n7 ≤ zc := by omega
      clear g1 g2 g3 g4 g5 hA7 hn7
      go_wp2_with (go_at_call 14; (with_reducible refine (same_bytes o7 zo n7 c7 zc es7 _ _ H7.out.2.1.row (H7.out.2.2.1.row.take n7) H7.out.2.1.len HTL.out H7.out.2.2.2 i4).mono ?_); rintro e8 w8 ⟨rfl, hb8⟩; have H8 := Lib.hid (H7.out.1.below.trans (hb8.mono H7.out.1.below.size)); clear hb8)
      go_ret
      exact ⟨rfl, H8.out⟩
theorem journalCrash_in (W : World) (base : Nat) (v0 v1 v2 v3 : Value) (k0 : Value.okWide Try.prog W .any base 22 v0) (k1 : Value.okWide Try.prog W .any base 22 v1) (k2 : Value.okWide Try.prog W .any base 3 v2) (k3 : Value.okWide Try.prog W .any base 3 v3)
    (r0 : Rd Try.prog W 22 v0.cells.toList) (r1 : Rd Try.prog W 22 v1.cells.toList) (r2 : Rd Try.prog W 3 v2.cells.toList) (r3 : Rd Try.prog W 3 v3.cells.toList) :
    Calls Try.prog 3 #[v0, v1, v2, v3] W fun e w' => e = .returned (.bool true) ∧ Below W.heap.size W w' := by
  obtain ⟨ao, es, c, rfl, h1, h2, h3⟩ := in_slice Try.underlying22 (size := 1) (by kernel_rfl) (by decide) (EntIs W) (fun _ h => ent_rd h) k0 r0
  obtain ⟨bo, fs, d, rfl, g1, g2, g3⟩ := in_slice Try.underlying22 (size := 1) (by kernel_rfl) (by decide) (EntIs W) (fun _ h => ent_rd h) k1 r1
  obtain ⟨x, rfl, hx1, hx2⟩ := in_i64 Try.underlying3 k2 r2
  obtain ⟨y, rfl, _, _⟩ := in_i64 Try.underlying3 k3 r3
  exact journalCrash_any ao _ c es bo _ d fs x y W rfl (row_ents h1) (Nat.le_trans h2 h3) rfl (row_ents g1) (Nat.le_trans g2 g3) ⟨hx1, hx2⟩
end Go.Proofs.Ytggidllaodloiaa
