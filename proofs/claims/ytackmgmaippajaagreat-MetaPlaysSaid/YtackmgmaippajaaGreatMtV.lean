/-
  LAYER 8: a reader's calls, by what is read in plain words; a condition on a drawn region's world that grows.
-/
import Derived.Test.YtackmgmaippajaaGreatMtR
namespace Go.Proofs.YtackmgmaippajaaGreat
open Go Go.RowKit

/-- The condition may be made stronger on the way. -/
theorem wpAnyH_more {P : Program} {md : Region.Mode} {ops : Array Oper} {Q : Exit → Act → World → Prop} {S S2 : World → Prop} (h : ∀ w, S2 w → S w) : ∀ (fuel : Nat) (listed : Array Bool) (a : Act) (w : World), wpAnyH P md ops Q S2 fuel listed a w → wpAnyH P md ops Q S fuel listed a w
  | 0, _, _, _, hh => hh
  | fuel + 1, _, _, _, hh => ⟨hh.1, fun i hi => wpOp_mono (fun a' w' h' => ⟨h _ h'.1, wpAnyH_more h fuel _ a' w' h'.2⟩) (hh.2 i hi)⟩
theorem rdN_some {k n : Nat} {bs r : List UInt8} (h : rdN k bs = some (n, r)) : k ≤ bs.length ∧ ube (bs.take k) = n ∧ bs.drop k = r := by
  unfold rdN at h
  split at h
  · simp at h; exact ⟨by assumption, h.1, h.2⟩
  · cases h
theorem rdN_none {k : Nat} {bs : List UInt8} (h : rdN k bs = none) : bs.length < k := by
  unfold rdN at h
  split at h
  · cases h
  · omega
theorem rdN_len {k n : Nat} {bs r : List UInt8} (h : rdN k bs = some (n, r)) : r.length + k = bs.length := by
  obtain ⟨h1, h2, rfl⟩ := rdN_some h
  rw [List.length_drop]; omega
theorem rdN_lt {k n : Nat} {bs r : List UInt8} (h : rdN k bs = some (n, r)) : n < 256 ^ k := by
  obtain ⟨h1, rfl, rfl⟩ := rdN_some h
  have := ube_lt (bs.take k)
  rwa [List.length_take, Nat.min_eq_left h1] at this
theorem u8_no (p : Nat) (D : Option Nat) (bs : List UInt8) (w : World) (h : RdrAt w p D bs) (hr : rdN 1 bs = none) :
    Calls Tryz.prog 70 #[.pointer (some ⟨p, 0, none⟩)] w fun e w' => e = .panicked (thrown 4) ∧ w = w' := ru8_short p D bs w h (rdN_none hr)
theorem u8_yes (p : Nat) (D : Option Nat) (bs : List UInt8) (n : Nat) (r : List UInt8) (w : World) (h : RdrAt w p D bs) (hr : rdN 1 bs = some (n, r)) (hb : bs.length ≤ 1000000) :
    Calls Tryz.prog 70 #[.pointer (some ⟨p, 0, none⟩)] w fun e w' => e = .returned (.int .u8 (n : Int)) ∧ RdrAt w' p D r ∧ Chg (· = p) w w' := by
  obtain ⟨h1, rfl, rfl⟩ := rdN_some hr
  exact ru8_any p D bs w h h1 (by omega)
theorem u16_no (p : Nat) (D : Option Nat) (bs : List UInt8) (w : World) (h : RdrAt w p D bs) (hr : rdN 2 bs = none) :
    Calls Tryz.prog 108 #[.pointer (some ⟨p, 0, none⟩)] w fun e w' => e = .panicked (thrown 4) ∧ w = w' := ru16_short p D bs w h (rdN_none hr)
theorem u16_yes (p : Nat) (D : Option Nat) (bs : List UInt8) (n : Nat) (r : List UInt8) (w : World) (h : RdrAt w p D bs) (hr : rdN 2 bs = some (n, r)) (hb : bs.length ≤ 1000000) :
    Calls Tryz.prog 108 #[.pointer (some ⟨p, 0, none⟩)] w fun e w' => e = .returned (.int .u16 (n : Int)) ∧ RdrAt w' p D r ∧ Chg (· = p) w w' := by
  obtain ⟨h1, rfl, rfl⟩ := rdN_some hr
  exact ru16_any p D bs w h h1 (by omega)
theorem u64_no (p : Nat) (D : Option Nat) (bs : List UInt8) (w : World) (h : RdrAt w p D bs) (hr : rdN 8 bs = none) :
    Calls Tryz.prog 73 #[.pointer (some ⟨p, 0, none⟩)] w fun e w' => e = .panicked (thrown 4) ∧ w = w' := ru64_short p D bs w h (rdN_none hr)
theorem u64_yes (p : Nat) (D : Option Nat) (bs : List UInt8) (n : Nat) (r : List UInt8) (w : World) (h : RdrAt w p D bs) (hr : rdN 8 bs = some (n, r)) (hb : bs.length ≤ 1000000) :
    Calls Tryz.prog 73 #[.pointer (some ⟨p, 0, none⟩)] w fun e w' => e = .returned (.int .u64 (n : Int)) ∧ RdrAt w' p D r ∧ Chg (· = p) w w' := by
  obtain ⟨h1, rfl, rfl⟩ := rdN_some hr
  exact ru64_any p D bs w h h1 (by omega)
theorem rdB_some {bs ys r : List UInt8} (h : rdB bs = some (ys, r)) : 4 ≤ bs.length ∧ ube (bs.take 4) + 4 ≤ bs.length ∧ (bs.drop 4).take (ube (bs.take 4)) = ys ∧ bs.drop (4 + ube (bs.take 4)) = r ∧ ys.length = ube (bs.take 4) := by
  unfold rdB at h
  split at h
  · cases h
  · rename_i n q hq
    obtain ⟨h1, rfl, rfl⟩ := rdN_some hq
    split at h
    · rename_i hl
      rw [List.length_drop] at hl
      simp at h
      obtain ⟨rfl, rfl⟩ := h
      refine ⟨h1, by omega, rfl, rfl, ?_⟩
      rw [List.length_take, List.length_drop]; omega
    · cases h
theorem rdB_len {bs ys r : List UInt8} (h : rdB bs = some (ys, r)) : r.length + 4 + ys.length = bs.length := by
  obtain ⟨h1, h2, h3, rfl, h5⟩ := rdB_some h
  rw [List.length_drop]; omega
theorem bytes_no (p : Nat) (D : Option Nat) (bs : List UInt8) (w : World) (h : RdrAt w p D bs) (hr : rdB bs = none) (hb : bs.length ≤ 1000000) :
    Calls Tryz.prog 72 #[.pointer (some ⟨p, 0, none⟩)] w fun e w' => e = .panicked (thrown 4) ∧ Chg (· = p) w w' := by
  refine rbytes_short p D bs w h ?_ (by omega)
  unfold rdB at hr
  split at hr
  · rename_i hq
    exact .inl (rdN_none hq)
  · rename_i n q hq
    obtain ⟨h1, rfl, rfl⟩ := rdN_some hq
    split at hr
    · cases hr
    · rename_i hl
      rw [List.length_drop] at hl
      exact .inr (by omega)
theorem bytes_yes (p : Nat) (D : Option Nat) (bs ys r : List UInt8) (w : World) (h : RdrAt w p D bs) (hr : rdB bs = some (ys, r)) (hb : bs.length ≤ 1000000) :
    Calls Tryz.prog 72 #[.pointer (some ⟨p, 0, none⟩)] w fun e w' => ∃ bo cap, e = .returned (.slice bo ys.length cap) ∧ Own w' 1 bo ys.length cap (ys.map cb) ∧ (∀ a, bo = some a → w.heap.size ≤ a.block) ∧ RdrAt w' p D r ∧ Chg (· = p) w w' := by
  obtain ⟨h1, h2, rfl, rfl, h5⟩ := rdB_some hr
  have := rbytes_any p D bs w h h1 (by omega) (by omega)
  rw [h5]
  exact this
end Go.Proofs.YtackmgmaippajaaGreat
