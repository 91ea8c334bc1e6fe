/-
  LAYER 2: Frame.
-/
import Derived.Test.YtggidllaodloiaaPackV
import Derived.Test.YtggidllaodloiaaCrcW
namespace Go.Proofs.Ytggidllaodloiaa
open Go Go.RowKit

/-- A frame. -/
def frame (bs : List UInt8) : List UInt8 := be 4 bs.length ++ be 4 (crc bs).toNat ++ bs
theorem frame_len (bs : List UInt8) : (frame bs).length = bs.length + 8 := by
  unfold frame; rw [List.length_append, List.length_append, be_length, be_length]; omega
theorem frame_new {w wa w1 : World} {F F1 : List Nat} (hb : Below w.heap.size w wa) (hc : Chg (· ∈ F) wa w1) (hg : Grew wa F F1) (hF : ∀ k ∈ F, w.heap.size ≤ k) : Below w.heap.size w w1 ∧ ∀ k ∈ F1, w.heap.size ≤ k :=
  ⟨hb.trans (hc.below hb.size hF), fun k hk => (hg k hk).elim (hF k) (Nat.le_trans hb.size)⟩
set_option maxHeartbeats 1000000 in
set_option maxRecDepth 100000 in
theorem frame_any (ao : Option Addr) (n c N : Nat) (bs : List UInt8) (w : World) (hl : bs.length = n) (hn : n ≤ 4096) (hb : Bts w ao bs) (hN : N = n + 8) :
    Calls Try.prog 23 #[.slice ao n c] w fun e w' => ∃ fo fc, e = .returned (.tuple #[.slice fo N fc, .int .i64 0]) ∧ Below w.heap.size w w' ∧ Own w' 1 fo N fc ((frame bs).map cb) ∧ ∀ a, fo = some a → w.heap.size ≤ a.block := by
  subst hl
  have h0 : WrAt (w.alloc (.cells #[.slice none 0 0] 70)) w.heap.size [] [w.heap.size] := ⟨none, 0, heap_top _ _, Own.nil' _ _, by simp, rfl⟩
  have hb0 := (Below.refl _ w).alloc (Nat.le_refl _) (.cells #[.slice none 0 0] 70)
  have H0 := Lib.hid (And.intro h0 (And.intro hb0 hb))
  have hcr := (crc bs).isLt
  clear h0 hb0 hb
  have hn32 := IntWalk.u32_in (bs.length : Int) (by omega)
  have hcl := Lib.hid (show ([] ++ be 4 bs.length).length ≤ 70368744177664 by simp [be_length])
  go_enter Try.func23, Try.ntmps23
  go_wp2_with (first
    | (go_at_call 31; (with_reducible refine (u32_anyI w.heap.size [] _ bs.length _ _ H0.out.1 rfl (by omega) (by decide)).mono ?_); rintro e1 w1 ⟨rfl, F1, h1, h2, h3⟩; have H1 := Lib.hid (And.intro h1 (And.intro (frame_new H0.out.2.1 h2 h3 (by simp)).1 (frame_new H0.out.2.1 h2 h3 (by simp)).2)); clear h1 h2 h3)
    | (go_at_call 30; (with_reducible refine (sum_any' ao _ c bs _ rfl (by omega) (H0.out.2.2.below H1.out.2.1)).mono ?_); rintro e2 w2 ⟨rfl, rfl⟩)
    | (go_at_call 31; (with_reducible refine (u32_anyI w.heap.size _ _ (crc bs).toNat _ _ H1.out.1 rfl hcr hcl.out).mono ?_); rintro e3 w3 ⟨rfl, F3, h1, h2, h3⟩; have hB3 := frame_new H1.out.2.1 h2 h3 H1.out.2.2; obtain ⟨xo, xc, g1, g2, g3, g4⟩ := h1; have z0 := heap_cell g1 0; have z1 := heap_frozen g1 0; simp at z0; have H3 := Lib.hid (And.intro g1 (And.intro g2 (And.intro g3 (And.intro g4 hB3)))); clear h2 h3 g1 g2 g3 g4 hB3)
    | (at_builtin; refine wpList_append' rfl (.tmp 23) (.tmp 24) el_u8 rfl rfl rfl H3.out.2.1 (by rw [List.length_map, Nat.mul_one]) (H0.out.2.2.below H3.out.2.2.2.2.1) (one_cb _) (by simp [be_length, maxLen]; omega) (by simp [be_length]; omega) ?_; intro yo yc w4 hx hch _ hx2; have hp4 := hch.heap H3.out.1 (fun ⟨a, ha, e⟩ => H3.out.2.2.1 a ha e); have y0 := heap_cell hp4 0; have y1 := heap_frozen hp4 0; simp at y0; have H4 := Lib.hid (And.intro hx (And.intro hch (And.intro hx2 hp4))); clear hx hch hx2 hp4))
  go_ret2
  obtain ⟨hx, hch, hx2, hp4⟩ := H4.out
  obtain ⟨g1, g2, g3, g4, hb3, hf3⟩ := H3.out
  have hNN : (be 4 bs.length).length + (be 4 (crc bs).toNat).length + bs.length = N := by rw [be_length, be_length]; omega
  have hfr : ([] ++ be 4 bs.length ++ be 4 (crc bs).toNat).map cb ++ bs.map cb = (frame bs).map cb := by rw [← List.map_append]; rfl
  have hT : w.heap.size < w3.heap.size := heap_lt g1
  have hyT : ∀ a, yo = some a → a.block ≠ w.heap.size := by
    intro a ha
    rcases hx2 a ha with h | h
    · exact g3 a h
    · omega
  have hs := Chg.one w4 w.heap.size 0 (.slice yo ((be 4 bs.length).length + (be 4 (crc bs).toNat).length + bs.length) yc)
  rw [hfr] at hx
  refine ⟨yo, yc, by rw [← hNN]; rfl, ?_, ?_, ?_⟩
  · refine (hb3.trans (hch.below hb3.size ?_)).trans (hs.below (Nat.le_trans hb3.size hch.size) (fun k hk => by omega))
    rintro k ⟨a, ha, e⟩
    exact e ▸ hf3 _ (by rw [g4]; simp [ha])
  · rw [← hNN]
    exact hx.keep hs hyT
  · intro a ha
    rcases hx2 a ha with h | h
    · exact hf3 _ (by rw [g4]; simp [h])
    · omega
end Go.Proofs.Ytggidllaodloiaa
