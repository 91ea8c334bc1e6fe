/-
  THE LAW JournalGoes OF LAYER 5, WALKED.
-/
import Derived.Test.YtggidllaodloiaaJourC
namespace Go.Proofs.Ytggidllaodloiaa
open Go Go.RowKit

/-- Two bytes of the arguments. -/
def PairIs (w : World) (x : BEnt × BEnt) (cs : List Value) : Prop := cs = [x.1.cell, x.2.cell] ∧ Bts w x.1.bo x.1.bs ∧ Bts w x.2.bo x.2.bs
theorem pair_rd {w : World} {cs : List Value} (h : Rd Try.prog w 38 cs) : ∃ x, PairIs w x cs := by
  obtain ⟨hl, ha⟩ := h.array Try.underlying38
  have hc : Try.prog.cellsOf 31 = 1 := by kernel_rfl
  obtain ⟨c0, c1, rfl⟩ := list2 (hl.trans (by kernel_rfl))
  have h0 := ha 0 (by decide)
  have h1 := ha 1 (by decide)
  rw [hc] at h0 h1
  obtain ⟨x, e0, b0⟩ := ent_rd h0
  obtain ⟨y, e1, b1⟩ := ent_rd h1
  simp at e0 e1
  exact ⟨(x, y), by rw [e0, e1], b0, b1⟩
/-- What holds at a round's head. -/
def GoesAt (w0 w : World) (p : Nat) (ps : List (BEnt × BEnt)) (k : Nat) (v : Value) : Prop :=
  ∃ wo nw cw ws F d Y r, v = .slice wo nw cw ∧ MineF 50 w0 w p d F ∧ Bodies w wo nw cw ws F ∧ Recs d.b (ws.map BEnt.bs ++ Y) r ∧ (Y = [] ∨ ∃ j x, k = j + 1 ∧ ps[j]? = some x ∧ Y = [x.2.bs]) ∧ d.room = 1048576 ∧ d.b.length ≤ 1000 * k ∧ nw ≤ 2 * k
theorem pair_at {w w' : World} {zo : Option Addr} {ps : List (BEnt × BEnt)} {k : Nat} {x : BEnt × BEnt} (h : RowOf w zo 2 (PairIs w) ps) (hb : Below w.heap.size w w') (hx : ps[k]? = some x) :
    ∃ b off, zo = some ⟨b, off, none⟩ ∧ w'.cell? ⟨b, off + k * 2, none⟩ = some (.slice x.1.bo x.1.bs.length x.1.cap) ∧ w'.cell? ⟨b, off + k * 2 + 1, none⟩ = some (.slice x.2.bo x.2.bs.length x.2.cap) ∧ Bts w x.1.bo x.1.bs ∧ Bts w x.2.bo x.2.bs := by
  obtain ⟨hlt, he⟩ := List.getElem?_eq_some_iff.1 hx
  obtain ⟨b, off, rfl, h1⟩ := h (by omega)
  obtain ⟨cs, hcs, ⟨rfl, h2, h3⟩, hc⟩ := h1 k hlt
  rw [he] at h2 h3 hc
  have c0 := (Chg.of_below hb (fun _ => False)).cell (hc 0 _ rfl) (fun h => h)
  have c1 := (Chg.of_below hb (fun _ => False)).cell (hc 1 _ rfl) (fun h => h)
  exact ⟨b, off, rfl, c0, c1, h2, h3⟩
theorem crash_f (w0 : World) (p : Nat) (d : Dsk) (F : List Nat) (keep bit : Int) (w : World) (h : MineF 50 w0 w p d F) (hk : -9223372036854775808 ≤ keep ∧ keep ≤ 9223372036854775807) :
    Calls Try.prog 13 #[.pointer (some ⟨p, 0, none⟩), .int .i64 keep, .int .i64 bit] w fun e w' => e = .returned (.tuple #[]) ∧ ∃ F', MineF 50 w0 w' p (d.crash keep bit) F' ∧ Chg (· ∈ F) w w' ∧ Grew w F F' :=
  (crash_any p d F keep bit w h.is hk).mono fun _ _ ⟨e, hd⟩ => ⟨e, h.step hd⟩
theorem goes_mine {w0 w5 w6 : World} {j p n7 c7 : Nat} {o7 : Option Addr} {es7 : List BEnt} {F5 : List Nat} {d5 : Dsk} {o : Obj} (hJ : JM w0 w5 j p d5 F5) (hB : Bodies w5 o7 n7 c7 es7 F5) (ho7 : ∀ a, o7 = some a → w0.heap.size ≤ a.block)
    (hch : Chg (fun i => ∃ a, o7 = some a ∧ a.block = i) (w5.alloc o) w6) : MineF 50 w0 w6 p d5 F5 :=
  hJ.mine.keep (((Chg.refl (fun i => ∃ a, o7 = some a ∧ a.block = i) w5).alloc o).trans hch (fun _ _ h => h)) (fun k hk ⟨a, ha, q⟩ => hB.at_ a ha (q ▸ hk)) (fun k ⟨a, ha, q⟩ => q ▸ ho7 a ha)
/-- A round's end: written, laid, noted, crashed. -/
theorem goes_end {w0 w5 w6 w7 : World} {j p k n7 c7 zc : Nat} {o7 zo : Option Addr} {es7 : List BEnt} {F5 F6 : List Nat} {d5 : Dsk} {x : BEnt × BEnt} {ps : List (BEnt × BEnt)} {o : Obj} {keep bit : Int} (hx : ps[k]? = some x) (hJ : JM w0 w5 j p d5 F5) (hB : Bodies w5 o7 n7 c7 es7 F5)
    (ho7 : ∀ a, o7 = some a → w0.heap.size ≤ a.block) (hx0 : Bts w0 x.1.bo x.1.bs) (hap : Own w6 1 zo (n7 + 1) zc (es7.map BEnt.cell ++ [x.1.cell])) (hch : Chg (fun i => ∃ a, o7 = some a ∧ a.block = i) (w5.alloc o) w6) (hx2 : ∀ a', zo = some a' → o7 = some a' ∨ (w5.alloc o).heap.size ≤ a'.block)
    (hm : MineF 50 w0 w6 p d5 F5) (hJ7 : MineF 50 w0 w7 p (d5.crash keep bit) F6) (hc : Chg (· ∈ F5) w6 w7) (hg : Grew w6 F5 F6)
    (hd : d5 = ⟨1048576, (frames (es7.map BEnt.bs ++ [x.1.bs])).length, frames (es7.map BEnt.bs ++ [x.1.bs]) ++ frames [x.2.bs]⟩) (h4 : ∀ y ∈ es7.map BEnt.bs, y.length ≤ 4096) (h41 : x.1.bs.length ≤ 300) (h42 : x.2.bs.length ≤ 300) (hl : d5.b.length ≤ 1000 * (k + 1)) (hn : n7 + 1 ≤ 2 * (k + 1)) :
    GoesAt w0 w7 p ps (k + 1) (.slice zo (n7 + 1) zc) := by
  have hS := Bodies.snoc (e := x.1) hB hJ.j.disk.lt (hx0.below hJ.below) (fun hz a ha => ⟨fun hk => by have := hJ.own _ hk; have := bts_lt hx0 hz a ha; omega, fun b hb q => by have := ho7 b hb; have := bts_lt hx0 hz a ha; omega⟩) hap hch hx2
  obtain ⟨k', r', hk', hrec, hcl, hroom⟩ := crash_recs 1048576 (es7.map BEnt.bs ++ [x.1.bs]) [x.2.bs] keep bit (fun y hy => by
    rcases List.mem_append.1 hy with hy | hy
    · exact h4 y hy
    · rw [List.mem_singleton] at hy; subst hy; omega) (fun y hy => by rw [List.mem_singleton] at hy; subst hy; omega)
  rw [← hd] at hrec hcl hroom
  have hlen : (d5.crash keep bit).b.length ≤ 1000 * (k + 1) := by
    have : d5.b.length = (frames (es7.map BEnt.bs ++ [x.1.bs]) ++ frames [x.2.bs]).length := by rw [hd]
    omega
  refine ⟨zo, n7 + 1, zc, es7 ++ [x.1], F6, d5.crash keep bit, [x.2.bs].take k', r', rfl, hJ7, hS.other hc hg, by rw [List.map_append]; exact hrec, ?_, hroom, hlen, hn⟩
  simp only [List.length_singleton] at hk'
  rcases Nat.eq_zero_or_pos k' with rfl | h
  · exact .inl rfl
  · obtain rfl : k' = 1 := by omega
    exact .inr ⟨k, x, rfl, hx, rfl⟩
set_option maxHeartbeats 4000000 in
set_option maxRecDepth 100000 in
theorem journalGoes_any (co : Option Addr) (N c : Nat) (ps : List (BEnt × BEnt)) (keep bit : Int) (w : World) (hl : ps.length = N) (hp : RowOf w co 2 (PairIs w) ps) (hN : N ≤ maxLen) (hk : -9223372036854775808 ≤ keep ∧ keep ≤ 9223372036854775807) :
    Calls Try.prog 5 #[.slice co N c, .int .i64 keep, .int .i64 bit] w fun e w' => e = .returned (.bool true) ∧ Below w.heap.size w w' := by
  have HH := Lib.hid (And.intro hl (And.intro hp hk))
  clear hl hp hk
  unfold maxLen at hN
  go_enter Try.func5, Try.ntmps5
  go_wp2_with fail
  (with_reducible refine (awake _).mono ?_)
  rintro e0 w1 ⟨rfl, hw⟩
  have HW := Lib.hid hw
  clear hw
  go_wp2_with fail
  (with_reducible refine (new_m w 1048576 1048576 _ rfl (by decide) HW.out).mono ?_)
  rintro e1 w2 ⟨p, rfl, hm1⟩
  have H1 := Lib.hid hm1
  clear hm1
  go_wp2
  go_loopg [9, 23] N (fun g v i wr => ∃ k : Nat, g + k = N ∧ i = .int .i64 k ∧ GoesAt w wr p ps k v)
  case atStart => exact ⟨0, by omega, rfl, none, 0, 0, [], _, _, [], [], rfl, H1.out, ⟨Own.nil' _ _, by simp, by simp, by simp⟩, recs_nil, .inl rfl, rfl, by simp, by simp⟩
  case round =>
    clear H1 HW
    obtain ⟨k, hgk, rfl, wo, nw, cw, ws, F, d, Y, r, rfl, hM, hB, hrec, hY, hroom, hdl, hnw⟩ := hrel
    have HR := Lib.hid (And.intro hM (And.intro hB (And.intro hrec (And.intro hroom hdl))))
    clear hM hB hrec hroom hdl
    by_cases hkN : k < N
    · obtain ⟨x, hx⟩ : ∃ x, ps[k]? = some x := ⟨_, List.getElem?_eq_getElem (by rw [HH.out.1]; exact hkN)⟩
      obtain ⟨zb, zoff, rfl, c0, c1, hb1, hb2⟩ := pair_at HH.out.2.1 HR.out.1.below hx
      have HX := Lib.hid (And.intro hx (And.intro hb1 hb2))
      clear hx hb1 hb2
      by_cases h15 : 15 < k
      · go_wp2
        go_ret
        exact ⟨rfl, HR.out.1.below.alloc HR.out.1.below.size _⟩
      by_cases h300 : 300 < x.1.bs.length
      · go_wp2
        go_ret
        exact ⟨rfl, HR.out.1.below.alloc HR.out.1.below.size _⟩
      by_cases h301 : 300 < x.2.bs.length
      · go_wp2
        go_ret
        exact ⟨rfl, HR.out.1.below.alloc HR.out.1.below.size _⟩
      have hT0 := heap_top wr (.cells #[.slice x.1.bo x.1.bs.length x.1.cap, .slice x.2.bo x.2.bs.length x.2.cap] 38)
      have hMa := HR.out.1.alloc (.cells #[.slice x.1.bo x.1.bs.length x.1.cap, .slice x.2.bo x.2.bs.length x.2.cap] 38)
      have hBa := HR.out.2.1.stays ((Below.refl _ wr).alloc (Nat.le_refl _) (.cells #[.slice x.1.bo x.1.bs.length x.1.cap, .slice x.2.bo x.2.bs.length x.2.cap] 38))
      have HTF := Lib.hid (show ∀ i ∈ F, i ≠ wr.heap.size from fun i hi => Nat.ne_of_lt (HR.out.1.is.lt i hi))
      have HA := Lib.hid (And.intro hMa (And.intro hBa hT0))
      have HDL := Lib.hid (show d.b.length ≤ 1000000 by have := HR.out.2.2.2.2; omega)
      clear hT0 hMa hBa
      go_wp2_with fail
      (with_reducible refine (open_m w p d F (ws.map BEnt.bs ++ Y) r _ HA.out.1 HR.out.2.2.1 HDL.out).mono ?_)
      rintro e5 w5 ⟨j, o7, n7, c7, es7, F7, rfl, g1, g2, g3, g4, g5, g6⟩
      have hT5 := g4.heap HA.out.2.2 (fun hi => HTF.out _ hi rfl)
      have HTF7 := Lib.hid (show ∀ i ∈ F7, i ≠ wr.heap.size from fun i hi => (g5 i hi).elim (HTF.out i) (fun h q => by rw [size_alloc] at h; omega))
      have hB5 := HA.out.2.1.other g4 g5
      have hn7 : n7 = nw + Y.length := by
        have h1 := g2.len
        have h2 := HR.out.2.1.len
        have h3 := congrArg List.length g3
        rw [List.length_map, List.length_append, List.length_map] at h3
        omega
      have hc7 := g2.own.le
      have hL5 : (frames (ws.map BEnt.bs ++ Y)).length ≤ 1000 * k := by
        have h1 := congrArg List.length HR.out.2.2.1.is
        rw [List.length_append] at h1
        have := HR.out.2.2.2.2
        omega
      have hfx1 := frame_len x.1.bs
      have hfx2 := frame_len x.2.bs
      have hrm := HR.out.2.2.2.1
      have HF := Lib.hid (And.intro (show x.1.bs.length ≤ 4096 by omega) (And.intro (show x.1.bs.length + 8 ≤ (⟨d.room, (frames (ws.map BEnt.bs ++ Y)).length, frames (ws.map BEnt.bs ++ Y)⟩ : Dsk).room - (⟨d.room, (frames (ws.map BEnt.bs ++ Y)).length, frames (ws.map BEnt.bs ++ Y)⟩ : Dsk).b.length by dsimp only; omega)
        (And.intro (show (⟨d.room, (frames (ws.map BEnt.bs ++ Y) ++ frame x.1.bs).length, frames (ws.map BEnt.bs ++ Y) ++ frame x.1.bs⟩ : Dsk) = ⟨1048576, (frames (es7.map BEnt.bs ++ [x.1.bs])).length, frames (es7.map BEnt.bs ++ [x.1.bs])⟩ by rw [hrm, g3, frames_app (ws.map BEnt.bs ++ Y), frames_one])
        (And.intro (show x.2.bs.length ≤ 4096 by omega) (And.intro (show x.2.bs.length + 8 ≤ (⟨1048576, (frames (es7.map BEnt.bs ++ [x.1.bs])).length, frames (es7.map BEnt.bs ++ [x.1.bs])⟩ : Dsk).room - (⟨1048576, (frames (es7.map BEnt.bs ++ [x.1.bs])).length, frames (es7.map BEnt.bs ++ [x.1.bs])⟩ : Dsk).b.length by dsimp only; rw [g3, frames_app (ws.map BEnt.bs ++ Y), frames_one, List.length_append, hfx1]; omega)
        (And.intro (show (⟨1048576, (frames (es7.map BEnt.bs ++ [x.1.bs])).length, frames (es7.map BEnt.bs ++ [x.1.bs]) ++ frame x.2.bs⟩ : Dsk) = ⟨1048576, (frames (es7.map BEnt.bs ++ [x.1.bs])).length, frames (es7.map BEnt.bs ++ [x.1.bs]) ++ frames [x.2.bs]⟩ by rw [frames_one])
        (And.intro (show ∀ y ∈ es7.map BEnt.bs, y.length ≤ 4096 by rw [g3]; exact HR.out.2.2.1.short) (show (⟨1048576, (frames (es7.map BEnt.bs ++ [x.1.bs])).length, frames (es7.map BEnt.bs ++ [x.1.bs]) ++ frames [x.2.bs]⟩ : Dsk).b.length ≤ 1000 * (k + 1) by dsimp only; rw [g3, frames_app (ws.map BEnt.bs ++ Y), frames_one, frames_one, List.length_append, List.length_append, hfx1, hfx2]; omega))))))))
      have H7N := Lib.hid (show ∀ a, o7 = some a → w.heap.size ≤ a.block from fun a ha => Nat.le_trans HA.out.1.below.size (g6 a ha))
      have H5 := Lib.hid (And.intro g1 (And.intro g2 (And.intro g3 (And.intro hT5 hB5))))
      clear g1 g2 g3 g4 g5 g6 hT5 hB5 hL5 hfx1 hfx2 hrm
      rcases hY with rfl | ⟨jj, y, rfl, hy, rfl⟩
      · -- BEGIN1
        obtain rfl : n7 = nw := by simpa using hn7
        clear hn7
        have i3 : (n7 : Int) ≤ (c7 : Int) := by omega
        have i4 : n7 ≤ 1000000 := by omega
        have i5 : decide ((n7 : Int) < (n7 : Int)) = false := by simp
        have HSB := Lib.hid (And.intro (show (es7.take n7).length = n7 by rw [List.length_take, H5.out.2.1.len]; omega) (show (es7.take n7).map BEnt.bs = ws.map BEnt.bs by rw [List.take_of_length_le (by rw [H5.out.2.1.len]; exact Nat.le_refl _), H5.out.2.2.1, List.append_nil]))
        go_wp2_with (go_at_call 14; (with_reducible refine (same_bytes o7 wo n7 c7 cw (es7.take n7) ws _ (H5.out.2.1.row.take n7) H5.out.2.2.2.2.row HSB.out.1 H5.out.2.2.2.2.len HSB.out.2 i4).mono ?_); rintro e8 w8 ⟨rfl, hb8⟩; have H8 := Lib.hid (And.intro (H5.out.1.stays hb8) (And.intro (H5.out.2.1.stays hb8) ((Chg.of_below hb8 (fun _ => False)).heap H5.out.2.2.2.1 (fun h => h)))); clear hb8)
        go_quiet (fail)
        have hb9 : Below w8.heap.size w8 (w8.drewN nq) := below_drewN (Below.refl _ w8) nq
        have H9 := Lib.hid (And.intro (H8.out.1.stays hb9) (And.intro (H8.out.2.1.stays hb9) ((Chg.of_below hb9 (fun _ => False)).heap H8.out.2.2 (fun h => h))))
        obtain ⟨l0, l1, _⟩ := cells2 H9.out.2.2
        clear hb9
        go_wp2_with fail
        (with_reducible refine (write_m w j p _ ⟨1048576, (frames (es7.map BEnt.bs ++ [x.1.bs])).length, frames (es7.map BEnt.bs ++ [x.1.bs])⟩ F7 x.1.bo _ x.1.cap x.1.bs _ H9.out.1 rfl (HX.out.2.1.below H9.out.1.below) HF.out.1 HF.out.2.1 HF.out.2.2.1).mono ?_)
        rintro e10 w10 ⟨rfl, F10, g1, g2, g3⟩
        have hT10 := g2.heap H9.out.2.2 (fun hi => HTF7.out _ hi rfl)
        obtain ⟨m0, m1, _⟩ := cells2 hT10
        have H10 := Lib.hid (And.intro g1 (And.intro (H9.out.2.1.other g2 g3) (And.intro hT10 (show ∀ i ∈ F10, i ≠ wr.heap.size from fun i hi => (g3 i hi).elim (HTF7.out i) (fun h q => by have := heap_lt H9.out.2.2; omega)))))
        clear g1 g2 g3 hT10
        go_wp2_with fail
        (with_reducible refine (lay_m w j p _ ⟨1048576, (frames (es7.map BEnt.bs ++ [x.1.bs])).length, frames (es7.map BEnt.bs ++ [x.1.bs]) ++ frames [x.2.bs]⟩ F10 x.2.bo _ x.2.cap x.2.bs _ H10.out.1 rfl (HX.out.2.2.below H10.out.1.below) HF.out.2.2.2.1 HF.out.2.2.2.2.1 HF.out.2.2.2.2.2.1).mono ?_)
        rintro e11 w11 ⟨rfl, F11, g1, g2, g3⟩
        have hT11 := g2.heap H10.out.2.2.1 (fun hi => H10.out.2.2.2 _ hi rfl)
        obtain ⟨q0, q1, _⟩ := cells2 hT11
        have H11 := Lib.hid (And.intro g1 (H10.out.2.1.other g2 g3))
        have HA11 := Lib.hid ((H10.out.2.1.other g2 g3).own.keep ((Chg.refl (fun _ => False) w11).alloc (.cells #[.slice x.1.bo x.1.bs.length x.1.cap] 31)) (fun _ _ h => h))
        have hTl := heap_lt hT11
        clear g1 g2 g3 hT11
        go_wp2_with (first
          | (at_builtin; refine wpList_append' rfl (.tmp 108) (.tmp 111) el_bs rfl rfl rfl HA11.out (m := 1) (news := [x.1.cell]) rfl (Row.alloc w11 #[.slice x.1.bo x.1.bs.length x.1.cap] 31 (0, 0)) (one_ent [x.1]) (by unfold maxLen; omega) (by omega) ?_; intro zo zc w12 hx hch _ hx2; have hm12 := goes_mine H11.out.1 H11.out.2 H7N.out hch; have H12 := Lib.hid (And.intro hx (And.intro hch (And.intro hx2 hm12))); clear hx hch hx2 hm12)
          | (go_at_call 13; (with_reducible refine (crash_f w p _ F11 keep bit _ H12.out.2.2.2 HH.out.2.2).mono ?_); rintro e13 w13 ⟨rfl, F13, g1, g2, g3⟩; have H13 := Lib.hid (And.intro g1 (And.intro g2 g3)); clear g1 g2 g3))
        go_roundg (gk - 1)
        case measure => omega
        case rel => exact ⟨_, by omega, by go_num, goes_end (o := .cells #[.slice x.1.bo x.1.bs.length x.1.cap] 31) HX.out.1 H11.out.1 H11.out.2 H7N.out HX.out.2.1 H12.out.1 H12.out.2.1 H12.out.2.2.1 H12.out.2.2.2 H13.out.1 H13.out.2.1 H13.out.2.2 rfl HF.out.2.2.2.2.2.2.1 (by omega) (by omega) HF.out.2.2.2.2.2.2.2 (by omega)⟩
        -- END1
      · -- BEGIN2
        have hn8 : n7 = nw + 1 := by simpa using hn7
        clear hn7
        obtain ⟨zs, hzs⟩ : ∃ zs, es7[nw]? = some zs := ⟨_, List.getElem?_eq_getElem (by rw [H5.out.2.1.len]; omega)⟩
        have hzb : zs.bs = y.2.bs := by
          have h1 := congrArg (·[nw]?) H5.out.2.2.1
          simp only [List.getElem?_map, hzs, Option.map_some] at h1
          rw [List.getElem?_append_right (by rw [List.length_map, H5.out.2.2.2.2.len]; exact Nat.le_refl _), List.length_map, H5.out.2.2.2.2.len, Nat.sub_self] at h1
          simpa using h1
        have i1 : (nw : Int) ≤ (n7 : Int) := by omega
        have i2 : (nw : Int) < (n7 : Int) := by omega
        have i3 : (nw : Int) ≤ (c7 : Int) := by omega
        have i4 : nw ≤ 1000000 := by omega
        have i5 : decide ((nw : Int) < (n7 : Int)) = true := by simpa using i2
        have i6 : (n7 : Int) ≤ (nw : Int) + 1 := by omega
        have i7 : ¬ (nw : Int) + 1 < (n7 : Int) := by omega
        have i8 : nw < n7 := by omega
        have hjN : jj < N := by omega
        have hji : (jj : Int) < (N : Int) := by omega
        have hj0 : (0 : Int) ≤ (jj : Int) := by omega
        have hw0 := IntWalk.i64_in (jj : Int) (by omega)
        have HSB := Lib.hid (And.intro (show (es7.take nw).length = nw by rw [List.length_take, H5.out.2.1.len]; omega) (show (es7.take nw).map BEnt.bs = ws.map BEnt.bs by rw [List.map_take, H5.out.2.2.1, List.take_append_of_le_length (by rw [List.length_map, H5.out.2.2.2.2.len]; exact Nat.le_refl _), List.take_of_length_le (by rw [List.length_map, H5.out.2.2.2.2.len]; exact Nat.le_refl _)]))
        have HN8 := Lib.hid hn8
        have HZ := Lib.hid (And.intro hzs hzb)
        have HY := Lib.hid hy
        clear hn8 hzs hzb hy
        go_wp2_with (go_at_call 14; (with_reducible refine (same_bytes o7 wo nw c7 cw (es7.take nw) ws _ (H5.out.2.1.row.take nw) H5.out.2.2.2.2.row HSB.out.1 H5.out.2.2.2.2.len HSB.out.2 i4).mono ?_); rintro e8 w8 ⟨rfl, hb8⟩; have H8 := Lib.hid (And.intro (H5.out.1.stays hb8) (And.intro (H5.out.2.1.stays hb8) ((Chg.of_below hb8 (fun _ => False)).heap H5.out.2.2.2.1 (fun h => h)))); clear hb8)
        obtain ⟨ob, ooff, ho7, z0, z1⟩ := H8.out.2.1.row.at HZ.out.1
        obtain ⟨yb, yoff, hyb, u0, u1, _, u3⟩ := pair_at HH.out.2.1 H8.out.1.below HY.out
        cases hyb
        rw [HZ.out.2] at z0 z1
        subst ho7
        have ks := str_alike y.2.bs
        have k1 := fun m => conv_bytes (w8.drewN m) Try.underlying31 Try.underlying5 Try.underlying9 zs.bo _ zs.cap y.2.bs rfl (z1.drewN m)
        have k2 := fun m => conv_bytes (w8.drewN m) Try.underlying31 Try.underlying5 Try.underlying9 y.2.bo _ y.2.cap y.2.bs rfl ((u3.below H8.out.1.below).drewN m)
        clear u3 z1
        go_quiet (fail)
        have hb9 : Below w8.heap.size w8 (w8.drewN nq) := below_drewN (Below.refl _ w8) nq
        have H9 := Lib.hid (And.intro (H8.out.1.stays hb9) (And.intro (H8.out.2.1.stays hb9) ((Chg.of_below hb9 (fun _ => False)).heap H8.out.2.2 (fun h => h))))
        have hn2 : n7 ≤ 2 * (jj + 1) + 1 := by have := HN8.out; omega
        clear k1 k2 hw0
        obtain ⟨l0, l1, _⟩ := cells2 H9.out.2.2
        clear hb9
        go_wp2_with fail
        (with_reducible refine (write_m w j p _ ⟨1048576, (frames (es7.map BEnt.bs ++ [x.1.bs])).length, frames (es7.map BEnt.bs ++ [x.1.bs])⟩ F7 x.1.bo _ x.1.cap x.1.bs _ H9.out.1 rfl (HX.out.2.1.below H9.out.1.below) HF.out.1 HF.out.2.1 HF.out.2.2.1).mono ?_)
        rintro e10 w10 ⟨rfl, F10, g1, g2, g3⟩
        have hT10 := g2.heap H9.out.2.2 (fun hi => HTF7.out _ hi rfl)
        obtain ⟨m0, m1, _⟩ := cells2 hT10
        have H10 := Lib.hid (And.intro g1 (And.intro (H9.out.2.1.other g2 g3) (And.intro hT10 (show ∀ i ∈ F10, i ≠ wr.heap.size from fun i hi => (g3 i hi).elim (HTF7.out i) (fun h q => by have := heap_lt H9.out.2.2; omega)))))
        clear g1 g2 g3 hT10
        go_wp2_with fail
        (with_reducible refine (lay_m w j p _ ⟨1048576, (frames (es7.map BEnt.bs ++ [x.1.bs])).length, frames (es7.map BEnt.bs ++ [x.1.bs]) ++ frames [x.2.bs]⟩ F10 x.2.bo _ x.2.cap x.2.bs _ H10.out.1 rfl (HX.out.2.2.below H10.out.1.below) HF.out.2.2.2.1 HF.out.2.2.2.2.1 HF.out.2.2.2.2.2.1).mono ?_)
        rintro e11 w11 ⟨rfl, F11, g1, g2, g3⟩
        have hT11 := g2.heap H10.out.2.2.1 (fun hi => H10.out.2.2.2 _ hi rfl)
        obtain ⟨q0, q1, _⟩ := cells2 hT11
        have H11 := Lib.hid (And.intro g1 (H10.out.2.1.other g2 g3))
        have HA11 := Lib.hid ((H10.out.2.1.other g2 g3).own.keep ((Chg.refl (fun _ => False) w11).alloc (.cells #[.slice x.1.bo x.1.bs.length x.1.cap] 31)) (fun _ _ h => h))
        have hTl := heap_lt hT11
        clear g1 g2 g3 hT11
        go_wp2_with (first
          | (at_builtin; refine wpList_append' rfl (.tmp 108) (.tmp 111) el_bs rfl rfl rfl HA11.out (m := 1) (news := [x.1.cell]) rfl (Row.alloc w11 #[.slice x.1.bo x.1.bs.length x.1.cap] 31 (0, 0)) (one_ent [x.1]) (by unfold maxLen; omega) (by omega) ?_; intro zo zc w12 hx hch _ hx2; have hm12 := goes_mine H11.out.1 H11.out.2 H7N.out hch; have H12 := Lib.hid (And.intro hx (And.intro hch (And.intro hx2 hm12))); clear hx hch hx2 hm12)
          | (go_at_call 13; (with_reducible refine (crash_f w p _ F11 keep bit _ H12.out.2.2.2 HH.out.2.2).mono ?_); rintro e13 w13 ⟨rfl, F13, g1, g2, g3⟩; have H13 := Lib.hid (And.intro g1 (And.intro g2 g3)); clear g1 g2 g3))
        go_roundg (gk - 1)
        case measure => omega
        case rel => exact ⟨_, by omega, by go_num, goes_end (o := .cells #[.slice x.1.bo x.1.bs.length x.1.cap] 31) HX.out.1 H11.out.1 H11.out.2 H7N.out HX.out.2.1 H12.out.1 H12.out.2.1 H12.out.2.2.1 H12.out.2.2.2 H13.out.1 H13.out.2.1 H13.out.2.2 rfl HF.out.2.2.2.2.2.2.1 (by omega) (by omega) HF.out.2.2.2.2.2.2.2 (by omega)⟩
        -- END2
    · go_wp2
      go_ret
      exact ⟨rfl, HR.out.1.below⟩
theorem journalGoes_in (W : World) (base : Nat) (v0 v1 v2 : Value) (k0 : Value.okWide Try.prog W .any base 37 v0) (k1 : Value.okWide Try.prog W .any base 3 v1) (k2 : Value.okWide Try.prog W .any base 3 v2)
    (r0 : Rd Try.prog W 37 v0.cells.toList) (r1 : Rd Try.prog W 3 v1.cells.toList) (r2 : Rd Try.prog W 3 v2.cells.toList) :
    Calls Try.prog 5 #[v0, v1, v2] W fun e w' => e = .returned (.bool true) ∧ Below W.heap.size W w' := by
  obtain ⟨ao, ps, c, rfl, h1, h2, h3⟩ := in_slice Try.underlying37 (size := 2) (by kernel_rfl) (by decide) (PairIs W) (fun _ h => pair_rd h) k0 r0
  obtain ⟨x, rfl, hx1, hx2⟩ := in_i64 Try.underlying3 k1 r1
  obtain ⟨y, rfl, _, _⟩ := in_i64 Try.underlying3 k2 r2
  exact journalGoes_any ao _ c ps x y W rfl h1 (Nat.le_trans h2 h3) ⟨hx1, hx2⟩
end Go.Proofs.Ytggidllaodloiaa
