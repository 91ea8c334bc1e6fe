/-
  LAYER 19: samePlaces at two lists with alike places.
-/
import Derived.Test.YtmkjcjdomechfaaLaterE
namespace Go.Proofs.Ytmkjcjdomechfaa
open Go Go.RowKit

theorem pos_row {w : World} {lo : Option Addr} {l : List Wt} {i : Nat} {e : Wt} (h : Row w lo (l.flatMap Wt.pos)) (he : l[i]? = some e) :
    ∃ b off, lo = some ⟨b, off, none⟩ ∧ w.cell? ⟨b, off + i * 2, none⟩ = some (.int .u64 (e.led : Int)) ∧ w.cell? ⟨b, off + i * 2 + 1, none⟩ = some (.int .u64 (e.ent : Int)) := by
  have hl : (l.flatMap Wt.pos).length = l.length * 2 := fl_len el_pos l
  have hi := (List.getElem?_eq_some_iff.1 he).1
  have hne : l.flatMap Wt.pos ≠ [] := fun h0 => by rw [h0] at hl; simp at hl; omega
  obtain ⟨b, off, rfl, h1⟩ := h hne
  have q0 := h1 _ _ ((fl_get el_pos he (show 0 < 2 by omega)).trans rfl)
  have q1 := h1 _ _ ((fl_get el_pos he (show 1 < 2 by omega)).trans rfl)
  simp only [Nat.add_zero, ← Nat.add_assoc] at q0 q1
  exact ⟨b, off, rfl, q0, q1⟩
set_option maxHeartbeats 2000000 in
theorem same_places (ao bo : Option Addr) (n c d : Nat) (l : List Wt) (w : World) (h1 : Row w ao (l.flatMap Wt.pos)) (h2 : Row w bo (l.flatMap Wt.pos)) (hn : l.length = n) (hm : n ≤ 1000000) :
    Calls Try.prog 14 #[.slice ao n c, .slice bo n d] w fun e w' => e = .returned (.bool true) ∧ Below w.heap.size w w' := by
  have HH := Lib.hid (And.intro h1 (And.intro h2 hn))
  clear h1 h2 hn
  go_enter Try.func14, Try.ntmps14
  go_wp2
  go_loopg [13] n (fun g v wr => ∃ k : Nat, g + k = n ∧ v = .int .i64 k ∧ Below w.heap.size w wr)
  case atStart => exact ⟨0, by omega, rfl, Below.refl _ _⟩
  case round =>
    obtain ⟨k, hgk, rfl, hb⟩ := hrel
    by_cases hk : k < n
    · obtain ⟨x, hx⟩ : ∃ x, l[k]? = some x := ⟨_, List.getElem?_eq_getElem (by rw [HH.out.2.2]; exact hk)⟩
      obtain ⟨b1, o1, rfl, c1, c1'⟩ := pos_row (HH.out.1.below hb) hx
      obtain ⟨b2, o2, rfl, c2, c2'⟩ := pos_row (HH.out.2.1.below hb) hx
      have hki : (k : Int) < (n : Int) := by omega
      have hk0 : (0 : Int) ≤ (k : Int) := by omega
      have HB := Lib.hid hb
      clear hb hx
      go_wp2
      go_quiet (fail)
      go_wp2
      go_roundg (gk - 1)
      case measure => omega
      case rel => exact ⟨k + 1, by omega, by go_num, (HB.out.trans (((Chg.refl (fun _ => False) wr).drewN _).below HB.out.size (fun _ h => h.elim)))⟩
    · have HB := Lib.hid hb
      clear hb
      go_wp2
      go_ret
      exact ⟨rfl, HB.out⟩
end Go.Proofs.Ytmkjcjdomechfaa
