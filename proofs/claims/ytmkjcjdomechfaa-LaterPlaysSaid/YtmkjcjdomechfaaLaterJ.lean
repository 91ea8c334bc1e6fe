/-
  LAYER 19: the document's Put, whole.
-/
import Derived.Test.YtmkjcjdomechfaaLaterG
import Derived.Test.YtmkjcjdomechfaaLaterI
namespace Go.Proofs.Ytmkjcjdomechfaa
open Go Go.RowKit

theorem drop_full {l : List Wt} {a b : Nat} (hl : l.length ≤ 256) (h : (dropL l a b).1.length = 256) : dropL l a b = (l, false) := by
  rcases who l a b with h1 | ⟨i, e, he, hid, hno⟩
  · exact dropL_none h1
  · rw [dropL_some he hid hno] at h
    have hi := (List.getElem?_eq_some_iff.1 he).1
    simp only [List.length_eraseIdx, hi, if_true] at h
    omega
theorem rput_all (p a b at_ : Nat) (l : List Wt) (F : List Nat) (w : World) (h : RListAt w p l F) (hl : l.length ≤ 256) :
    Calls Try.prog 11 #[.pointer (some ⟨p, 0, none⟩), .agg #[.int .u64 (a : Int), .int .u64 (b : Int)], .int .u64 (at_ : Int)] w fun r w' => r = .returned (.int .i64 (putL l a b at_).2) ∧ RWrote w w' p (putL l a b at_).1 F := by
  have hd := dropL_len l a b
  unfold putL
  by_cases h1 : 1099511627776 < at_
  · rw [if_pos h1]
    refine (rput_time p a b at_ w h1).mono ?_
    rintro r w' ⟨rfl, hb⟩
    exact ⟨rfl, .same h hb⟩
  · rw [if_neg h1]
    by_cases h2 : 256 ≤ (dropL l a b).1.length
    · rw [if_pos h2]
      have h3 := drop_full (a := a) (b := b) hl (by omega)
      refine (rput_full p a b at_ l F w h (show (dropL l a b).1.length = 256 by omega) (by rw [h3]) (by omega) (fun w h => rdrop_all p a b l F w h (by omega))).mono ?_
      rintro r w' ⟨rfl, hw⟩
      rw [h3]
      exact ⟨rfl, hw⟩
    · rw [if_neg h2]
      exact rput_go p a b at_ l F w h (by omega) (by omega) (fun w h => rdrop_all p a b l F w h (by omega))
end Go.Proofs.Ytmkjcjdomechfaa
