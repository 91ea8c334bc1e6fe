/-
  slices.BinarySearchFunc of elements of several cells.
-/
import Derived.Test.YtmkjcjdomechfaaProg
import Derived.Test.YtmkjcjdomechfaaDelW
import Derived.Deep.RegionHeld3
namespace Go.Proofs.Ytmkjcjdomechfaa
open Go Go.RowKit

/-- How elements stand to a target. -/
structure CmpBy (P : Program) (f : Nat) (tv : Value) (ck : Wt → Int) (es : List Wt) : Prop where
  fn : ∀ args w, (callFunc f args).run P w = .ok (.enter f args) w
  by' : ∀ e w, e ∈ es → Calls P f #[e.val, tv] w fun r w' => r = .returned (.int .i64 (ck e)) ∧ Below w.heap.size w w'
def Lo (ck : Wt → Int) (es : List Wt) (i : Nat) : Prop := ∀ (k : Nat) (x : Wt), k < i → es[k]? = some x → ck x < 0
def Hi (ck : Wt → Int) (es : List Wt) (i : Nat) : Prop := ∀ (k : Nat) (x : Wt), i ≤ k → es[k]? = some x → 0 ≤ ck x
theorem row_at' {w : World} {lo : Option Addr} {es : List Wt} {k : Nat} {e : Wt} (h : Row w lo (es.flatMap Wt.cells)) (he : es[k]? = some e) :
    ∃ b off, lo = some ⟨b, off, none⟩ ∧ ∀ j v, e.cells[j]? = some v → w.cell? ⟨b, off + (k * 3 + j), none⟩ = some v := by
  have h0 := fl_get el_e he (show 0 < 3 by omega)
  obtain ⟨b, off, rfl, hc⟩ := h (by
    intro e0
    rw [e0] at h0
    have := el_e.len e
    rw [List.getElem?_eq_getElem (l := e.cells) (by omega)] at h0
    cases h0)
  refine ⟨b, off, rfl, fun j v hj => hc _ _ ?_⟩
  have hjs : j < 3 := by
    have := (List.getElem?_eq_some_iff.1 hj).1
    rwa [el_e.len] at this
  rw [fl_get el_e he hjs, hj]
set_option maxHeartbeats 2000000 in
set_option maxRecDepth 100000 in
theorem bs_any {f : Nat} {ck : Wt → Int} (tg : Wt) (lo : Option Addr) (n cap : Nat) (es : List Wt) (w : World) (hr : Row w lo (es.flatMap Wt.cells)) (hn : es.length = n) (hm : n ≤ 1000000) (h : CmpBy Try.prog f (tg.val) ck es)
    (mono : ∀ (i j : Nat) (x y : Wt), i ≤ j → es[i]? = some x → es[j]? = some y → 0 ≤ ck x → 0 ≤ ck y) :
    Calls Try.prog 19 #[.slice lo n cap, (tg.val), .func (.func f) #[] #[]] w fun e w' => ∃ (i : Nat) (fd : Bool), e = .returned (.tuple #[.int .i64 (i : Int), .bool fd]) ∧ Below w.heap.size w w' ∧ i ≤ n ∧ Lo ck es i ∧ Hi ck es i ∧ (fd = true ↔ ∃ x, es[i]? = some x ∧ ck x = 0) := by
  obtain ⟨y0, y1, y2⟩ := tg
  have hfn := h.fn
  have hby : ∀ e w, e ∈ es → Calls Try.prog f #[e.val, .agg #[.int .u64 (y0 : Int), .int .u64 (y1 : Int), .int .u64 (y2 : Int)]] w fun r w' => r = .returned (.int .i64 (ck e)) ∧ Below w.heap.size w w' := h.by'
  have HH := Lib.hid (And.intro hr (And.intro hn (And.intro hby mono)))
  clear hr hn h mono hby
  change Calls _ _ #[.slice lo n cap, .agg #[.int .u64 (y0 : Int), .int .u64 (y1 : Int), .int .u64 (y2 : Int)], .func (.func f) #[] #[]] w _
  go_enter Try.func19, Try.ntmps19
  go_wp2
  have HT1 := Lib.hid (Nat.le_refl w.heap.size)
  have HT0 := Lib.hid (And.intro ((Below.refl _ w).alloc (Nat.le_refl _) (.cells #[.int .u64 (y0 : Int), .int .u64 (y1 : Int), .int .u64 (y2 : Int)] 45)) (heap_top w (.cells #[.int .u64 (y0 : Int), .int .u64 (y1 : Int), .int .u64 (y2 : Int)] 45)))
  generalize hTT : w.heap.size = T at *
  have HT2 := Lib.hid hTT
  clear hTT HT1
  go_loopg [9, 10] n (fun g vi vj wr => ∃ i j : Nat, g + i = j ∧ vi = .int .i64 i ∧ vj = .int .i64 j ∧ j ≤ n ∧ Lo ck es i ∧ Hi ck es j ∧ Below T w wr ∧ wr.heap[T]? = some (.cells #[.int .u64 (y0 : Int), .int .u64 (y1 : Int), .int .u64 (y2 : Int)] 45 (0, 0)))
  case atStart => exact ⟨0, n, rfl, rfl, rfl, Nat.le_refl _, fun _ _ h => by omega, fun k x hk hx => by have := (List.getElem?_eq_some_iff.1 hx).1; have := HH.out.2.1; omega, HT0.out⟩
  case round =>
    obtain ⟨i, j, hg, rfl, rfl, hjn, hlo, hhi, hb, hT⟩ := hrel
    obtain ⟨t0, t1, t2, _⟩ := cells3 hT
    have HR := Lib.hid (And.intro hlo (And.intro hhi (And.intro hb hT)))
    by_cases hij : i < j
    · have hadd := IntWalk.i64_in ((i : Int) + (j : Int)) (by omega)
      obtain ⟨m, hm2, hmi, hmj⟩ : ∃ m : Nat, ((i : Int) + (j : Int)) / 2 = (m : Int) ∧ i ≤ m ∧ m < j := ⟨(i + j) / 2, by omega, by omega, by omega⟩
      have hm1 := IntWalk.i64_in ((m : Int) + 1) (by omega)
      have hmn : (m : Int) < (n : Int) := by omega
      have hm0 : (0 : Int) ≤ (m : Int) := by omega
      obtain ⟨e, he⟩ : ∃ e, es[m]? = some e := ⟨_, List.getElem?_eq_getElem (by rw [HH.out.2.1]; omega)⟩
      obtain ⟨b, off, rfl, hcs⟩ := row_at' (HH.out.1.below (show Below w.heap.size w wr by rw [HT2.out]; exact hb)) he
      have HE := Lib.hid (And.intro he (HH.out.2.2.1 e wr.drew (List.mem_of_getElem? he)))
      obtain ⟨x0, x1, x2⟩ := e
      have q0 := hcs 0 _ rfl
      have q1 := hcs 1 _ rfl
      have q2 := hcs 2 _ rfl
      simp only [Nat.add_zero, ← Nat.add_assoc] at q0 q1 q2
      clear hcs he hlo hhi hb hT
      have hS0 : wr.drew.cell? ⟨b, off + m * 3, none⟩ = some (.int .u64 (x0 : Int)) ∧ wr.drew.cell? ⟨b, off + m * 3 + 1, none⟩ = some (.int .u64 (x1 : Int)) ∧ wr.drew.cell? ⟨b, off + m * 3 + 2, none⟩ = some (.int .u64 (x2 : Int)) ∧ wr.drew.cell? ⟨T, 0, none⟩ = some (.int .u64 (y0 : Int)) ∧ wr.drew.cell? ⟨T, 1, none⟩ = some (.int .u64 (y1 : Int)) ∧ wr.drew.cell? ⟨T, 2, none⟩ = some (.int .u64 (y2 : Int)) := ⟨q0, q1, q2, t0, t1, t2⟩
      have hcall : Calls Try.prog f #[.agg #[.int .u64 (x0 : Int), .int .u64 (x1 : Int), .int .u64 (x2 : Int)], .agg #[.int .u64 (y0 : Int), .int .u64 (y1 : Int), .int .u64 (y2 : Int)]] wr.drew (fun r w' => r = .returned (.int .i64 (ck ⟨x0, x1, x2⟩)) ∧ Below wr.drew.heap.size wr.drew w') := HE.out.2
      generalize hck : ck ⟨x0, x1, x2⟩ = c at *
      have HE := Lib.hid (And.intro HE.out.1 (And.intro hck hcall))
      clear hck hcall
      have hcc : c < 0 ∨ 0 ≤ c := by omega
      rcases hcc with hc | hc
      · -- BEGIN1
        as_aux_lemma =>
          go_upto_region 5 with fail
          go_region_held3 (fun wx => wx.cell? ⟨b, off + m * 3, none⟩ = some (.int .u64 (x0 : Int)) ∧ wx.cell? ⟨b, off + m * 3 + 1, none⟩ = some (.int .u64 (x1 : Int)) ∧ wx.cell? ⟨b, off + m * 3 + 2, none⟩ = some (.int .u64 (x2 : Int)) ∧ wx.cell? ⟨T, 0, none⟩ = some (.int .u64 (y0 : Int)) ∧ wx.cell? ⟨T, 1, none⟩ = some (.int .u64 (y1 : Int)) ∧ wx.cell? ⟨T, 2, none⟩ = some (.int .u64 (y2 : Int)))
            (first | exact hS0 | exact hS1)
            (first
              | ((with_reducible refine HE.out.2.2.mono ?_); rintro r w1 ⟨rfl, hb1⟩; have hch := Chg.of_below hb1 (fun _ => False); have hS1 := (show w1.cell? ⟨b, off + m * 3, none⟩ = some (.int .u64 (x0 : Int)) ∧ w1.cell? ⟨b, off + m * 3 + 1, none⟩ = some (.int .u64 (x1 : Int)) ∧ w1.cell? ⟨b, off + m * 3 + 2, none⟩ = some (.int .u64 (x2 : Int)) ∧ w1.cell? ⟨T, 0, none⟩ = some (.int .u64 (y0 : Int)) ∧ w1.cell? ⟨T, 1, none⟩ = some (.int .u64 (y1 : Int)) ∧ w1.cell? ⟨T, 2, none⟩ = some (.int .u64 (y2 : Int)) from ⟨hch.cell (w := wr.drew) q0 (fun h => h), hch.cell (w := wr.drew) q1 (fun h => h), hch.cell (w := wr.drew) q2 (fun h => h), hch.cell (w := wr.drew) t0 (fun h => h), hch.cell (w := wr.drew) t1 (fun h => h), hch.cell (w := wr.drew) t2 (fun h => h)⟩); have H1 := Lib.hid (And.intro hch hb1); clear hch hb1))
          go_wp2
          go_roundg (j - (m + 1))
          case measure => omega
          case rel => exact ⟨m + 1, j, by omega, by go_num, rfl, hjn, fun k x hk hx => by
              by_cases h0 : 0 ≤ ck x
              · have := HH.out.2.2.2 k m x _ (by omega) hx HE.out.1 h0
                rw [HE.out.2.1] at this; omega
              · omega, HR.out.2.1, HR.out.2.2.1.drew.trans (H1.out.2.mono (Nat.le_of_lt (heap_lt HR.out.2.2.2))), H1.out.1.heap HR.out.2.2.2 (fun h => h)⟩
        -- END1
      · -- BEGIN2
        as_aux_lemma =>
          have hc' : decide (c < 0) = false := decide_eq_false (by omega)
          go_upto_region 5 with fail
          go_region_held3 (fun wx => wx.cell? ⟨b, off + m * 3, none⟩ = some (.int .u64 (x0 : Int)) ∧ wx.cell? ⟨b, off + m * 3 + 1, none⟩ = some (.int .u64 (x1 : Int)) ∧ wx.cell? ⟨b, off + m * 3 + 2, none⟩ = some (.int .u64 (x2 : Int)) ∧ wx.cell? ⟨T, 0, none⟩ = some (.int .u64 (y0 : Int)) ∧ wx.cell? ⟨T, 1, none⟩ = some (.int .u64 (y1 : Int)) ∧ wx.cell? ⟨T, 2, none⟩ = some (.int .u64 (y2 : Int)))
            (first | exact hS0 | exact hS1)
            (first
              | ((with_reducible refine HE.out.2.2.mono ?_); rintro r w1 ⟨rfl, hb1⟩; have hch := Chg.of_below hb1 (fun _ => False); have hS1 := (show w1.cell? ⟨b, off + m * 3, none⟩ = some (.int .u64 (x0 : Int)) ∧ w1.cell? ⟨b, off + m * 3 + 1, none⟩ = some (.int .u64 (x1 : Int)) ∧ w1.cell? ⟨b, off + m * 3 + 2, none⟩ = some (.int .u64 (x2 : Int)) ∧ w1.cell? ⟨T, 0, none⟩ = some (.int .u64 (y0 : Int)) ∧ w1.cell? ⟨T, 1, none⟩ = some (.int .u64 (y1 : Int)) ∧ w1.cell? ⟨T, 2, none⟩ = some (.int .u64 (y2 : Int)) from ⟨hch.cell (w := wr.drew) q0 (fun h => h), hch.cell (w := wr.drew) q1 (fun h => h), hch.cell (w := wr.drew) q2 (fun h => h), hch.cell (w := wr.drew) t0 (fun h => h), hch.cell (w := wr.drew) t1 (fun h => h), hch.cell (w := wr.drew) t2 (fun h => h)⟩); have H1 := Lib.hid (And.intro hch hb1); clear hch hb1))
          go_wp2
          go_roundg (m - i)
          case measure => omega
          case rel => exact ⟨i, m, by omega, rfl, rfl, by omega, HR.out.1, fun k x hk hx => HH.out.2.2.2 m k _ x hk HE.out.1 hx (by rw [HE.out.2.1]; exact hc), HR.out.2.2.1.drew.trans (H1.out.2.mono (Nat.le_of_lt (heap_lt HR.out.2.2.2))), H1.out.1.heap HR.out.2.2.2 (fun h => h)⟩
        -- END2
    · obtain rfl : i = j := by omega
      have hbw : Below w.heap.size w wr := by rw [HT2.out]; exact hb
      have HB := Lib.hid hbw
      by_cases hin : i < n
      · have hinI : (i : Int) < (n : Int) := by omega
        have hi0 : (0 : Int) ≤ (i : Int) := by omega
        obtain ⟨e, he⟩ : ∃ e, es[i]? = some e := ⟨_, List.getElem?_eq_getElem (by rw [HH.out.2.1]; omega)⟩
        obtain ⟨b, off, rfl, hcs⟩ := row_at' (HH.out.1.below hbw) he
        have HE := Lib.hid (And.intro he (HH.out.2.2.1 e wr.drew (List.mem_of_getElem? he)))
        obtain ⟨x0, x1, x2⟩ := e
        have q0 := hcs 0 _ rfl
        have q1 := hcs 1 _ rfl
        have q2 := hcs 2 _ rfl
        simp only [Nat.add_zero, ← Nat.add_assoc] at q0 q1 q2
        clear hcs he hlo hhi hb hT hbw
        have hS0 : wr.drew.cell? ⟨b, off + i * 3, none⟩ = some (.int .u64 (x0 : Int)) ∧ wr.drew.cell? ⟨b, off + i * 3 + 1, none⟩ = some (.int .u64 (x1 : Int)) ∧ wr.drew.cell? ⟨b, off + i * 3 + 2, none⟩ = some (.int .u64 (x2 : Int)) ∧ wr.drew.cell? ⟨T, 0, none⟩ = some (.int .u64 (y0 : Int)) ∧ wr.drew.cell? ⟨T, 1, none⟩ = some (.int .u64 (y1 : Int)) ∧ wr.drew.cell? ⟨T, 2, none⟩ = some (.int .u64 (y2 : Int)) := ⟨q0, q1, q2, t0, t1, t2⟩
        have hcall : Calls Try.prog f #[.agg #[.int .u64 (x0 : Int), .int .u64 (x1 : Int), .int .u64 (x2 : Int)], .agg #[.int .u64 (y0 : Int), .int .u64 (y1 : Int), .int .u64 (y2 : Int)]] wr.drew (fun r w' => r = .returned (.int .i64 (ck ⟨x0, x1, x2⟩)) ∧ Below wr.drew.heap.size wr.drew w') := HE.out.2
        generalize hck : ck ⟨x0, x1, x2⟩ = c at *
        have HE := Lib.hid (And.intro HE.out.1 (And.intro hck hcall))
        clear hck hcall
        -- BEGIN3
        as_aux_lemma =>
          go_upto_region 8 with fail
          go_region_held3 (fun wx => wx.cell? ⟨b, off + i * 3, none⟩ = some (.int .u64 (x0 : Int)) ∧ wx.cell? ⟨b, off + i * 3 + 1, none⟩ = some (.int .u64 (x1 : Int)) ∧ wx.cell? ⟨b, off + i * 3 + 2, none⟩ = some (.int .u64 (x2 : Int)) ∧ wx.cell? ⟨T, 0, none⟩ = some (.int .u64 (y0 : Int)) ∧ wx.cell? ⟨T, 1, none⟩ = some (.int .u64 (y1 : Int)) ∧ wx.cell? ⟨T, 2, none⟩ = some (.int .u64 (y2 : Int)))
            (first | exact hS0 | exact hS1)
            (first
              | ((with_reducible refine HE.out.2.2.mono ?_); rintro r w1 ⟨rfl, hb1⟩; have hch := Chg.of_below hb1 (fun _ => False); have hS1 := (show w1.cell? ⟨b, off + i * 3, none⟩ = some (.int .u64 (x0 : Int)) ∧ w1.cell? ⟨b, off + i * 3 + 1, none⟩ = some (.int .u64 (x1 : Int)) ∧ w1.cell? ⟨b, off + i * 3 + 2, none⟩ = some (.int .u64 (x2 : Int)) ∧ w1.cell? ⟨T, 0, none⟩ = some (.int .u64 (y0 : Int)) ∧ w1.cell? ⟨T, 1, none⟩ = some (.int .u64 (y1 : Int)) ∧ w1.cell? ⟨T, 2, none⟩ = some (.int .u64 (y2 : Int)) from ⟨hch.cell (w := wr.drew) q0 (fun h => h), hch.cell (w := wr.drew) q1 (fun h => h), hch.cell (w := wr.drew) q2 (fun h => h), hch.cell (w := wr.drew) t0 (fun h => h), hch.cell (w := wr.drew) t1 (fun h => h), hch.cell (w := wr.drew) t2 (fun h => h)⟩); have H1 := Lib.hid (And.intro hch hb1); clear hch hb1))
          go_wp2
          go_ret2
          refine ⟨i, _, rfl, HB.out.drew.trans (H1.out.2.mono HB.out.size), hjn, HR.out.1, HR.out.2.1, ?_⟩
          rw [beq_iff_eq]
          constructor
          · rintro rfl; exact ⟨_, HE.out.1, HE.out.2.1⟩
          · rintro ⟨x, hx, hx0⟩
            have := HE.out.1.symm.trans hx
            cases this
            rw [← HE.out.2.1]; exact hx0
        -- END3
      · have hinI : decide ((i : Int) < (n : Int)) = false := decide_eq_false (by omega)
        clear hlo hhi hb hT hbw t0
        -- BEGIN4
        as_aux_lemma =>
          go_upto_region 8 with fail
          go_quiet (fail)
          go_wp2
          go_ret2
          refine ⟨i, false, rfl, HB.out.trans (((Chg.refl (fun _ => False) wr).drewN _).below HB.out.size (fun _ h => h.elim)), hjn, HR.out.1, HR.out.2.1, ?_⟩
          constructor
          · intro h; cases h
          · rintro ⟨x, hx, _⟩
            have := (List.getElem?_eq_some_iff.1 hx).1
            have := HH.out.2.1
            omega
        -- END4
end Go.Proofs.Ytmkjcjdomechfaa

