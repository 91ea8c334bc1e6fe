/-
  LAYER 7: a book of a given list: what is none; lease.New.
-/
import Derived.Test.YtgcldmmhfleggaaLeaseU
namespace Go.Proofs.Ytgcldmmhfleggaa
open Go Go.RowKit

set_option maxHeartbeats 8000000 in
set_option maxRecDepth 100000 in
theorem bookof_bad (last : Nat) (ao : Option Addr) (n c K : Nat) (l : List Sess) (w : World) (hn : l.length = n) (hr : Row w ao (l.flatMap Sess.cells)) (hm : n ≤ 16) (hg : ∀ k, k < K → ∀ e, l[k]? = some e → Good last l k e) (hbad : ∃ e, l[K]? = some e ∧ ¬ Good last l K e) :
    Calls Try.prog 17 #[.int .u64 (last : Int), .slice ao n c] w fun e w' => e = .returned (.tuple #[.pointer none, .bool false]) ∧ Below w.heap.size w w' := by
  have hKn : K < n := by obtain ⟨e, he, _⟩ := hbad; have := (List.getElem?_eq_some_iff.1 he).1; omega
  have HK := Lib.hid hbad
  have HX := Lib.hid (And.intro hn (And.intro hr hg))
  have h16 : ¬ (16 : Int) < (n : Int) := by omega
  clear hn hr hg hbad
  go_enter Try.func17, Try.ntmps17
  go_wp2
  go_loopg [6] K (fun g v wr => ∃ k : Nat, g + k = K ∧ v = .int .i64 k ∧ Below w.heap.size w wr)
  case atStart => exact ⟨0, by omega, rfl, Below.refl _ _⟩
  case round =>
    obtain ⟨k, hgk, rfl, hb⟩ := hrel
    have hrw := HX.out.2.1.below hb
    have HB := Lib.hid hb
    clear hb
    by_cases hk : k < K
    · obtain ⟨e, he⟩ : ∃ e, l[k]? = some e := ⟨_, List.getElem?_eq_getElem (by rw [HX.out.1]; omega)⟩
      obtain ⟨g1, g2, g3, g4, g5⟩ := HX.out.2.2 k hk e he
      obtain ⟨b, off, rfl, c0, c1, c2⟩ := row_at hrw he
      have i0 : ((e.id : Int) == 0) = false := by simp; omega
      have i1 : ¬ (last : Int) < (e.id : Int) := by omega
      have i2 : ((e.life : Int) == 0) = false := by simp; omega
      have i3 : ¬ 1099511627776 < (e.life : Int) := by omega
      have hkn : k < n := by have := HX.out.1; omega
      clear g1 g2 g3 g4 he
      rcases g5 with rfl | ⟨q, d, rfl, hd, hlt⟩
      · clear hrw
        simp only [Nat.zero_mul, Nat.add_zero] at c0 c1 c2
        go_wp2
        go_quiet (fail)
        go_wp2
        go_roundg (gk - 1)
        case measure => omega
        case rel => exact ⟨1, by omega, by go_num, bdrew HB.out _⟩
      · obtain ⟨b', off', hab, d0, d1, d2⟩ := row_at hrw hd
        cases hab
        have j0 : (0 : Int) < ((q + 1 : Nat) : Int) := by omega
        have j1 := IntWalk.i64_in (((q + 1 : Nat) : Int) - 1) (by omega)
        have j2 : (((q + 1 : Nat) : Int) - 1).toNat = q := by omega
        have j3 : ((q + 1 : Nat) : Int) - 1 = (q : Int) := by omega
        have j4 : ¬ (e.id : Int) ≤ (d.id : Int) := by omega
        have j5 : q < n := by omega
        clear hrw hd
        go_wp2
        go_quiet (fail)
        go_wp2
        go_roundg (gk - 1)
        case measure => omega
        case rel => exact ⟨q + 1 + 1, by omega, by go_num, bdrew HB.out _⟩
    · obtain rfl : k = K := by omega
      obtain ⟨e, he, hbad⟩ := HK.out
      have hkn : k < n := by have := (List.getElem?_eq_some_iff.1 he).1; have := HX.out.1; omega
      obtain ⟨b, off, rfl, c0, c1, c2⟩ := row_at hrw he
      rcases bad_why (by have := HX.out.1; omega) hbad with h | ⟨h1, h⟩ | ⟨h1, h2, h⟩ | ⟨h1, h2, h3, h⟩ | ⟨h1, h2, h3, h4, q, d, rfl, hd, h⟩
      · have i0 : ((e.id : Int) == 0) = true := by simp; omega
        clear h he hbad hrw
        go_wp2
        go_ret2
        exact ⟨rfl, HB.out⟩
      · have i0 : ((e.id : Int) == 0) = false := by simp; omega
        have i1 : (last : Int) < (e.id : Int) := by omega
        clear h h1 he hbad hrw
        go_wp2
        go_ret2
        exact ⟨rfl, HB.out⟩
      · have i0 : ((e.id : Int) == 0) = false := by simp; omega
        have i1 : ¬ (last : Int) < (e.id : Int) := by omega
        have i2 : ((e.life : Int) == 0) = true := by simp; omega
        clear h h1 h2 he hbad hrw
        go_wp2
        go_ret2
        exact ⟨rfl, HB.out⟩
      · have i0 : ((e.id : Int) == 0) = false := by simp; omega
        have i1 : ¬ (last : Int) < (e.id : Int) := by omega
        have i2 : ((e.life : Int) == 0) = false := by simp; omega
        have i3 : 1099511627776 < (e.life : Int) := by omega
        clear h h1 h2 h3 he hbad hrw
        go_wp2
        go_ret2
        exact ⟨rfl, HB.out⟩
      · obtain ⟨b', off', hab, d0, d1, d2⟩ := row_at hrw hd
        cases hab
        have i0 : ((e.id : Int) == 0) = false := by simp; omega
        have i1 : ¬ (last : Int) < (e.id : Int) := by omega
        have i2 : ((e.life : Int) == 0) = false := by simp; omega
        have i3 : ¬ 1099511627776 < (e.life : Int) := by omega
        have j0 : (0 : Int) < ((q + 1 : Nat) : Int) := by omega
        have j1 := IntWalk.i64_in (((q + 1 : Nat) : Int) - 1) (by omega)
        have j2 : (((q + 1 : Nat) : Int) - 1).toNat = q := by omega
        have j3 : ((q + 1 : Nat) : Int) - 1 = (q : Int) := by omega
        have j4 : (e.id : Int) ≤ (d.id : Int) := by omega
        have j5 : q < n := by omega
        clear h h1 h2 h3 h4 he hbad hrw hd
        go_wp2
        go_quiet (fail)
        go_wp2
        go_ret2
        exact ⟨rfl, bdrew HB.out _⟩
end Go.Proofs.Ytgcldmmhfleggaa
