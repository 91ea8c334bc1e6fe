/-
  THE LAW PackBack OF LAYER 2, JOINED.
-/
import Derived.Test.YtgodnlcjbfdkhaaPackB
import Derived.Test.YtgodnlcjbfdkhaaPackX
namespace Go.Proofs.Ytgodnlcjbfdkhaa
open Go Go.RowKit

theorem back_len {w : World} {yo : Option Addr} {n yc : Nat} {xs : List UInt8} (h : Own w 1 yo n yc (xs.map cb)) : xs.length = n := by
  have := h.len; rwa [List.length_map, Nat.mul_one] at this
/-- The closure, as a read's. -/
theorem back_by {w0 w : World} {R L : Nat} {D : Option Nat} {co : Option Addr} {e N : Nat} {l : List Thing} {more : List UInt8} (hN : l.length = N) (hc : RowOf w0 co 4 (ThingIs w0) l) (hs : Short l) (hm : more.length ≤ 1000)
    (hb : Below w0.heap.size w0 w) (hL : w.heap[L]? = some (.cells #[.slice co N e] 37 (0, 0))) (hR : w.heap[R]? = some (.cells #[.bool true] 4 (0, 0))) (hDR : D ≠ some R) (hR0 : w0.heap.size ≤ R) :
    ReadBy 18 #[.pointer (some ⟨L, 0, none⟩), .pointer (some ⟨R, 0, none⟩)] w D (encs l ++ more) (fun k => k = R) (fun w2 => w2.heap[R]? = some (.cells #[.bool true] 4 (0, 0)))
      (fun e w2 => e = .returned (.tuple #[]) ∧ RdrAt w2 (w.heap.size + 1) D more) := by
  have hRl := heap_lt hR
  refine ⟨fun _ _ => rfl, fun k hk => hk ▸ hRl, fun w1 hb1 hr => ?_, fun w2 w3 hc _ hg => hc.heap hg (fun h => by omega)⟩
  have hbs := hb.size
  refine (back_any w0 w1 (w.heap.size + 1) R L D co e N l more hN hc hs hm (hb.trans (hb1.mono hbs)) hr ((Chg.of_below hb1 (fun _ => False)).heap hL (fun h => h)) ((Chg.of_below hb1 (fun _ => False)).heap hR (fun h => h)) (by omega) hDR (by omega) hR0).mono ?_
  rintro e w2 ⟨rfl, h1, h2, h3⟩
  exact ⟨⟨rfl, h1⟩, h3, h2⟩
theorem mem_slice {w wa w1 : World} {co : Option Addr} {e N : Nat} (hw : wa = w.alloc (.cells #[.slice co N e] 37)) (hb : Below wa.heap.size wa w1) :
    w1.heap[w.heap.size]? = some (.cells #[.slice co N e] 37 (0, 0)) ∧ Below w.heap.size w w1 := by
  subst hw
  exact ⟨(Chg.of_below hb (fun _ => False)).heap (heap_top w _) (fun h => h), ((Below.refl _ w).alloc (Nat.le_refl _) _).trans (hb.mono (by rw [size_alloc]; omega))⟩
theorem back_app {w wq w4 w5 : World} {R L n yc : Nat} {co : Option Addr} {e N : Nat} {xo yo : Option Addr} {xs : List UInt8} (hR : R < wq.heap.size) (hb : Below w.heap.size w w4) (h1 : w4.heap[R]? = some (.cells #[.bool true] 4 (0, 0))) (h2 : w4.heap[L]? = some (.cells #[.slice co N e] 37 (0, 0)))
    (hx : ∀ a, xo = some a → wq.heap.size ≤ a.block) (hs : wq.heap.size ≤ w4.heap.size) (hc : Chg (fun k => ∃ a, xo = some a ∧ a.block = k) w4 w5) (hy : ∀ a', yo = some a' → xo = some a' ∨ w4.heap.size ≤ a'.block) (hL : L < wq.heap.size) (hw : w.heap.size ≤ R) (ho : Own w5 1 yo n yc (xs.map cb)) :
    Own w5 1 yo n yc (xs.map cb) ∧ Below w.heap.size w w5 ∧ w5.heap[R]? = some (.cells #[.bool true] 4 (0, 0)) ∧ w5.heap[L]? = some (.cells #[.slice co N e] 37 (0, 0)) ∧ yo.map (·.block) ≠ some R := by
  refine ⟨ho, hb.trans (hc.below hb.size ?_), hc.heap h1 ?_, hc.heap h2 ?_, ?_⟩
  · rintro k ⟨a, ha, rfl⟩; have := hx a ha; omega
  · rintro ⟨a, ha, e⟩; have := hx a ha; omega
  · rintro ⟨a, ha, e⟩; have := hx a ha; omega
  · intro hyR
    cases hyo : yo with
    | none => rw [hyo] at hyR; cases hyR
    | some a =>
      rw [hyo] at hyR
      simp at hyR
      rcases hy a hyo with h | h
      · have := hx a h; omega
      · omega
set_option maxHeartbeats 4000000 in
theorem packBack_any (co : Option Addr) (e N : Nat) (l : List Thing) (ao : Option Addr) (n c : Nat) (more : List UInt8) (w : World) (hN : l.length = N) (hc : RowOf w co 4 (ThingIs w) l) (hm : N ≤ maxLen) (hl : more.length = n) (hb : Bts w ao more) (hn : n ≤ maxLen) :
    Calls Try.prog 6 #[.slice co N e, .slice ao n c] w fun e w' => e = .returned (.bool true) ∧ Below w.heap.size w w' := by
  have HH := Lib.hid (And.intro hN (And.intro hc (And.intro hm (And.intro hl hb))))
  clear hN hc hm hb
  by_cases hs : Short l
  · by_cases hn1 : n ≤ 1000
    · have HS := Lib.hid (And.intro hs (show false = true ↔ ¬ Short l by simp [hs]))
      have hlen : (encs l).length ≤ 60240 := by
        have h1 := encs_len l hs.2
        have h2 := hs.1
        omega
      have HL := Lib.hid hl
      clear hs
      have hmf : ∀ (fn : Fn) (first cap : Array Value) (w : World), (Instr.makeFunc fn first cap).run Try.prog w = .ok (.func fn first cap) w := fun _ _ _ _ => rfl
      obtain ⟨code, hcode⟩ : ∃ code : Int, code = if more = [] then 0 else 5 := ⟨_, rfl⟩
      have HCO := Lib.hid hcode
      have HC5 := Lib.hid (show 0 < n → code = 5 by intro h; rw [hcode, if_neg (fun h0 => by rw [h0] at hl; simp at hl; omega)])
      have HC0 := Lib.hid (show n = 0 → code = 0 by intro h; rw [hcode, if_pos (List.length_eq_zero_iff.1 (hl.trans h))])
      clear hcode hl
      go_enter Try.func6, Try.ntmps6
      go_wp2_with (first
        | (go_at_call 10; (with_reducible refine (awake _).mono ?_); rintro e1 w1 ⟨rfl, hw⟩; obtain ⟨hl1, hw1⟩ := mem_slice rfl hw; have z1 := heap_cell hl1 0; simp at z1; have HW := Lib.hid (And.intro hw1 hl1); clear hw hl1 hw1)
        | (go_at_call 15; (with_reducible refine (long_any co e N l _ HH.out.1 (things_below HH.out.2.1 HW.out.1) HH.out.2.2.1 false HS.out.2).mono ?_); rintro e2 w2 ⟨rfl, hw⟩; have hl2 := (Chg.of_below hw (fun _ => False)).heap HW.out.2 (fun h => h); have z2 := heap_cell hl2 0; simp at z2; have HW2 := Lib.hid (And.intro (HW.out.1.trans (hw.mono HW.out.1.size)) hl2); clear hw hl2)
        | (go_at_call 16; (with_reducible refine (put_all co e N l _ HH.out.1 (things_below HH.out.2.1 HW2.out.1) HS.out.1).mono ?_); rintro e3 w3 ⟨p, F, bo, nb, cap, rfl, hb⟩; have HB := Lib.hid hb; clear hb))
      have hq : w3.heap.size < (w3.alloc (.cells #[.bool true] 4)).heap.size := by rw [size_alloc]; omega
      have hqw : WrAt (w3.alloc (.cells #[.bool true] 4)) p (encs l) F := HB.out.wr.keep ((Chg.refl (fun _ => False) _).alloc _) (fun _ _ h => h)
      have hqR : (w3.alloc (.cells #[.bool true] 4)).heap[w3.heap.size]? = some (.cells #[.bool true] 4 (0, 0)) := heap_top w3 _
      have hb3 : Below w2.heap.size w2 (w3.alloc (.cells #[.bool true] 4)) := HB.out.below.alloc HB.out.below.size _
      have hqL := (Chg.of_below hb3 (fun _ => False)).heap HW2.out.2 (fun h => h)
      have hqb := HW2.out.1.trans (hb3.mono HW2.out.1.size)
      have hRw : w.heap.size ≤ w3.heap.size := Nat.le_trans HW2.out.1.size HB.out.below.size
      have HQ := Lib.hid (And.intro hq (And.intro hqw (And.intro hqR (And.intro hqL (And.intro hqb hRw)))))
      clear hq hqw hqR hqL hqb hb3 hRw
      generalize w3.alloc (.cells #[.bool true] 4) = wq at *
      generalize w3.heap.size = R at *
      have hl46 : (encs l).length ≤ 70368744177664 := by omega
      have hn0 : (0 : Int) < n ↔ more ≠ [] := by rw [← HL.out]; cases more <;> simp <;> omega
      have HN0 := Lib.hid hn0
      clear hn0
      go_wp2_with (first
        | (go_at_call 14; (with_reducible refine (done_any p (encs l) F _ HQ.out.2.1 hl46).mono ?_); rintro e4 w4 ⟨xo, xc, rfl, hb4, ho4, hx4⟩; have H4 := Lib.hid (And.intro (HQ.out.2.2.2.2.1.trans (hb4.mono HQ.out.2.2.2.2.1.size)) (And.intro ((Chg.of_below hb4 (fun _ => False)).heap HQ.out.2.2.1 (fun h => h)) (And.intro ((Chg.of_below hb4 (fun _ => False)).heap HQ.out.2.2.2.1 (fun h => h)) (And.intro ho4 (And.intro hx4 hb4.size))))); clear hb4 ho4 hx4)
        | (at_builtin; refine wpList_append' rfl (.tmp 24) (.tmp 25) el_u8 rfl rfl rfl H4.out.2.2.2.1 (by rw [List.length_map, HL.out, Nat.mul_one]) (HH.out.2.2.2.2.below H4.out.1) (one_cb _) (by unfold maxLen; omega) (by omega) ?_; intro yo yc w5 hx hch _ hx2; rw [← List.map_append] at hx; have H5 := Lib.hid (back_app HQ.out.1 H4.out.1 H4.out.2.1 H4.out.2.2.1 H4.out.2.2.2.2.1 H4.out.2.2.2.2.2 hch hx2 (heap_lt HQ.out.2.2.2.1) HQ.out.2.2.2.2.2 hx); clear hx hch hx2)
        | (go_at_call 17; (with_reducible refine (read_ret HCO.out (by rw [HL.out]; omega) H5.out.1.bts (back_len H5.out.1) H5.out.1.le H5.out.1.max (back_by HH.out.1 HH.out.2.1 HS.out.1 (by rw [HL.out]; exact hn1) H5.out.2.1 H5.out.2.2.2.1 H5.out.2.2.1 H5.out.2.2.2.2 HQ.out.2.2.2.2.2)).mono ?_); rintro e6 w6 ⟨rfl, hg, hf⟩; have z6 := heap_cell hf 0; simp at z6; have H6 := Lib.hid (And.intro hg hf); clear hg hf))
      all_goals (
        go_ret
        refine ⟨?_, H5.out.2.1.trans (H6.out.1.below H5.out.2.1.size (fun k hk => by have := HQ.out.2.2.2.2.2; omega))⟩
        rcases Nat.eq_zero_or_pos n with h0 | h0
        · have h5 := HC0.out h0
          subst h5
          first | rfl | omega
        · have h5 := HC5.out h0
          subst h5
          first | rfl | omega)
    · have HLG := Lib.hid (fun w1 hc => long_any co e N l w1 HH.out.1 hc HH.out.2.2.1 false (by simp [hs]))
      clear hs
      go_enter Try.func6, Try.ntmps6
      go_wp2_with (first
        | (go_at_call 10; (with_reducible refine (awake _).mono ?_); rintro e1 w1 ⟨rfl, hw⟩; obtain ⟨hl1, hw1⟩ := mem_slice rfl hw; have z1 := heap_cell hl1 0; simp at z1; have HW := Lib.hid (And.intro hw1 hl1); clear hw hl1 hw1)
        | (go_at_call 15; (with_reducible refine (HLG.out _ (things_below HH.out.2.1 HW.out.1)).mono ?_); rintro e2 w2 ⟨rfl, hw⟩; have HW2 := Lib.hid (HW.out.1.trans (hw.mono HW.out.1.size)); clear hw))
      go_ret
      exact ⟨rfl, HW2.out⟩
  · have HLG := Lib.hid (fun w1 hc => long_any co e N l w1 HH.out.1 hc HH.out.2.2.1 true (by simp [hs]))
    clear hs
    go_enter Try.func6, Try.ntmps6
    go_wp2_with (first
      | (go_at_call 10; (with_reducible refine (awake _).mono ?_); rintro e1 w1 ⟨rfl, hw⟩; obtain ⟨hl1, hw1⟩ := mem_slice rfl hw; have z1 := heap_cell hl1 0; simp at z1; have HW := Lib.hid (And.intro hw1 hl1); clear hw hl1 hw1)
      | (go_at_call 15; (with_reducible refine (HLG.out _ (things_below HH.out.2.1 HW.out.1)).mono ?_); rintro e2 w2 ⟨rfl, hw⟩; have HW2 := Lib.hid (HW.out.1.trans (hw.mono HW.out.1.size)); clear hw))
    go_ret
    exact ⟨rfl, HW2.out⟩
theorem packBack_in (W : World) (base : Nat) (v0 v1 : Value) (k0 : Value.okWide Try.prog W .any base 37 v0) (k1 : Value.okWide Try.prog W .any base 22 v1) (r0 : Rd Try.prog W 37 v0.cells.toList) (r1 : Rd Try.prog W 22 v1.cells.toList) :
    Calls Try.prog 6 #[v0, v1] W fun e w' => e = .returned (.bool true) ∧ Below W.heap.size W w' := by
  obtain ⟨co, zs, e, rfl, hc, hl, hm⟩ := in_slice Try.underlying37 (size := 4) (by kernel_rfl) (by decide) (ThingIs W) (fun es h => thing_rd h) k0 r0
  obtain ⟨ao, bs, c, rfl, h1, h2, h3⟩ := in_bytesC Try.underlying22 Try.underlying5 (by kernel_rfl) k1 r1
  exact packBack_any co e _ zs ao _ c bs W rfl hc (Nat.le_trans hl hm) rfl h1 (Nat.le_trans h2 h3)
end Go.Proofs.Ytgodnlcjbfdkhaa
