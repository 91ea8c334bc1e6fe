/-
  LAYER 2: a writer of the function's own; the law's Awake.
-/
import Derived.Test.YtgodnlcjbfdkhaaPackR
import Derived.Test.YtgodnlcjbfdkhaaStr
namespace Go.Proofs.Ytgodnlcjbfdkhaa
open Go Go.RowKit

/-- A writer that was made behind w0. -/
def WrMine (w0 w : World) (p : Nat) (bs : List UInt8) : Prop := ∃ F, WrAt w p bs F ∧ (∀ k ∈ F, w0.heap.size ≤ k) ∧ Below w0.heap.size w0 w
theorem WrMine.below {w0 w : World} {p : Nat} {bs : List UInt8} (h : WrMine w0 w p bs) : Below w0.heap.size w0 w := h.choose_spec.2.2
theorem WrMine.keep {w0 w w' : World} {p : Nat} {bs : List UInt8} (h : WrMine w0 w p bs) (hb : Below w.heap.size w w') : WrMine w0 w' p bs := by
  obtain ⟨F, h1, h2, h3⟩ := h
  exact ⟨F, h1.keep (Chg.of_below hb (fun _ => False)) (fun _ _ h => h), h2, h3.trans (hb.mono h3.size)⟩
theorem WrMine.chg {w0 w w' : World} {p : Nat} {bs : List UInt8} (h : WrMine w0 w p bs) (hb : Chg (fun _ => False) w w') : WrMine w0 w' p bs := by
  obtain ⟨F, h1, h2, h3⟩ := h
  exact ⟨F, h1.keep hb (fun _ _ h => h), h2, h3.trans (hb.below h3.size (fun _ h => h.elim))⟩
theorem WrMine.new {w0 w : World} (h : Below w0.heap.size w0 w) : WrMine w0 (w.alloc (.cells #[.slice none 0 0] 32)) w.heap.size [] := by
  refine ⟨[w.heap.size], ⟨none, 0, heap_top _ _, Own.nil' _ _, by simp, rfl⟩, ?_, h.alloc h.size _⟩
  intro k hk
  rw [List.mem_singleton] at hk
  rw [hk]; exact h.size
theorem WrMine.now {w0 w w' : World} {p : Nat} {bs' : List UInt8} {F : List Nat} (h2 : ∀ k ∈ F, w0.heap.size ≤ k) (h3 : Below w0.heap.size w0 w) (hn : WrNow w p F bs' w') : WrMine w0 w' p bs' := by
  obtain ⟨F', h4, h5, h6⟩ := hn
  refine ⟨F', h4, ?_, h3.trans (h5.below h3.size h2)⟩
  intro k hk
  rcases h6 k hk with h | h
  · exact h2 k h
  · exact Nat.le_trans h3.size h
theorem u16_mine {w0 w : World} {p : Nat} {bs : List UInt8} (h : WrMine w0 w p bs) (N : Int) (n : Nat) (hN : N = (n : Int)) (hn : n < 65536) (hb : bs.length ≤ 70368744177664) :
    Calls Try.prog 28 #[.pointer (some ⟨p, 0, none⟩), .int .u16 N] w fun e w' => e = .returned (.tuple #[]) ∧ WrMine w0 w' p (bs ++ be 2 n) := by
  subst hN
  obtain ⟨F, h1, h2, h3⟩ := h
  exact (u16_any p bs F n w h1 hn hb).mono fun e w' he => ⟨he.1, WrMine.now h2 h3 he.2⟩
theorem text_mine {w0 w : World} {p : Nat} {bs : List UInt8} (h : WrMine w0 w p bs) (s : ByteArray) (hn : s.size ≤ 4294967295) (hb : bs.length ≤ 4398046511104) :
    Calls Try.prog 13 #[.pointer (some ⟨p, 0, none⟩), .string s] w fun e w' => e = .returned (.tuple #[]) ∧ WrMine w0 w' p (bs ++ be 4 s.size ++ s.data.toList) := by
  obtain ⟨F, h1, h2, h3⟩ := h
  exact (text_any p bs F s w h1 hn hb).mono fun e w' he => ⟨he.1, WrMine.now h2 h3 he.2⟩
theorem done_mine {w0 w : World} {p : Nat} {bs : List UInt8} (h : WrMine w0 w p bs) (hb : bs.length ≤ 70368744177664) :
    Calls Try.prog 14 #[.pointer (some ⟨p, 0, none⟩)] w fun e w' => ∃ bo cap, e = .returned (.slice bo bs.length cap) ∧ WrMine w0 w' p bs ∧ Own w' 1 bo bs.length cap (bs.map cb) ∧ ∀ a, bo = some a → w.heap.size ≤ a.block := by
  have hk := h
  obtain ⟨F, h1, h2, h3⟩ := h
  exact (done_any p bs F w h1 hb).mono fun e w' ⟨bo, cap, he, hb', ho, hx⟩ => ⟨bo, cap, he, hk.keep hb', ho, hx⟩
/-! ### the law's Awake -/
theorem awake1 (p : Nat) (D : Option Nat) (w : World) (h : RdrAt w p D [1]) :
    Calls Try.prog 29 #[.pointer (some ⟨p, 0, none⟩)] w fun e w' => e = .panicked (thrown 4) ∧ w = w' := by
  have H := Lib.hid h
  clear h
  go_enter Try.func29, Try.ntmps29
  go_wp2_with (go_at_call 20; (with_reducible refine (ru16_short p D [1] _ H.out (by decide)).mono ?_); rintro e w1 ⟨rfl, rfl⟩)
  exact ⟨rfl, rfl, rfl⟩
theorem awake_by (w : World) (D : Option Nat) : ReadBy 29 #[] w D [1] (fun _ => False) (fun _ => True) (fun e _ => e = .panicked (thrown 4)) :=
  ⟨fun _ _ => rfl, fun _ h => h.elim, fun w1 _ hr => (awake1 _ D w1 hr).mono fun e w2 ⟨he, hw⟩ => ⟨he, hw ▸ Chg.refl _ _, trivial⟩, fun _ _ _ _ _ => trivial⟩
theorem one_bts (w : World) (fz : Nat × Nat) : Bts (w.alloc (.cells #[.int .u8 1] 5 fz)) (some ⟨w.heap.size, 0, none⟩) [1] := Bts.alloc w _ _ _ _ rfl
theorem awake_read (w : World) : Calls Try.prog 17 #[.slice (some ⟨w.heap.size, 0, none⟩) 1 1, .func (.func 29) #[] #[]] (w.alloc (.cells #[.int .u8 1] 5)) fun e w' => e = .returned (.int .i64 4) ∧ Below w.heap.size w w' := by
  refine (read_thrown (one_bts w (0, 0)) rfl (Nat.le_refl _) (by decide) (awake_by _ _)).mono ?_
  · rintro e w' ⟨he, hc, -⟩
    exact ⟨he, ((Below.refl _ w).alloc (Nat.le_refl _) _).trans (hc.below (by rw [size_alloc]; omega) (fun _ h => h.elim))⟩
theorem awake (w : World) : Calls Try.prog 10 #[] w fun e w' => e = .returned (.bool true) ∧ Below w.heap.size w w' := by
  have HN := Lib.hid (WrMine.new (Below.refl w.heap.size w))
  have e1 : [] ++ be 2 258 = [1, 2] := by decide
  have e2 : ∀ l, l = [1, 2] → l ++ be 4 (⟨#[97]⟩ : ByteArray).size ++ (⟨#[97]⟩ : ByteArray).data.toList = [1, 2, 0, 0, 0, 1, 97] := by rintro _ rfl; decide
  have kt : ((strOf [1, 2, 0, 0, 0, 1, 97]).toList == [1, 2, 0, 0, 0, 1, 97]) = true := by simp [strOf_toList]
  go_enter Try.func10, Try.ntmps10
  go_wp2_with (first
    | (go_at_call 28; (with_reducible refine (u16_mine HN.out 258 258 rfl (by decide) (by decide)).mono ?_); rintro e w1 ⟨rfl, hm⟩; rw [e1] at hm; have H1 := Lib.hid hm; clear hm)
    | (go_at_call 13; (with_reducible refine (text_mine H1.out _ (by decide) (by decide)).mono ?_); rintro e w2 ⟨rfl, hm⟩; rw [e2 _ rfl] at hm; have H2 := Lib.hid hm; clear hm)
    | (go_at_call 17; (with_reducible refine (awake_read w2).mono ?_); rintro e w3 ⟨rfl, hc⟩; have H3 := Lib.hid (H2.out.keep hc); clear hc)
    | (go_at_call 14; (with_reducible refine (done_mine H3.out (by decide)).mono ?_); rintro e w4 ⟨bo, cap, rfl, hm, ho, _⟩; have ks := conv_bytes w4 Try.underlying22 Try.underlying5 Try.underlying9 bo 7 cap _ rfl ho.bts; have H4 := Lib.hid hm; clear hm ho))
  go_ret
  exact ⟨rfl, H4.out.below⟩
end Go.Proofs.Ytgodnlcjbfdkhaa
