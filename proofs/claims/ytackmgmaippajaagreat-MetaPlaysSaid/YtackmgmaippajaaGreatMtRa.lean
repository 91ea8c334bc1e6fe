/-
  LAYER 8: a keeper's own records, read again, in plain words.
-/
import Derived.Test.YtackmgmaippajaaGreatMtVa
import Derived.Test.YtackmgmaippajaaGreatMtL
namespace Go.Proofs.YtackmgmaippajaaGreat
open Go Go.RowKit

theorem goodT_of {s : St} (h : s.Ok) : GoodT s.ps := by
  refine ⟨by rw [List.length_map]; exact h.fine.len, fun k e he => ?_⟩
  rw [List.getElem?_map] at he
  cases hq : s.ps[k]? with
  | none => rw [hq] at he; cases he
  | some x =>
    rw [hq] at he
    cases he
    have hx := List.mem_of_getElem? hq
    refine ⟨(h.key x hx).1, (h.key x hx).2, h.fine.body x hx, by have := h.ver x hx; show x.ver ≠ 0; omega, ?_⟩
    rcases Nat.eq_zero_or_pos k with h0 | h0
    · exact .inl h0
    · obtain ⟨q, rfl⟩ : ∃ q, k = q + 1 := ⟨k - 1, by omega⟩
      obtain ⟨i2, e2⟩ := List.getElem?_eq_some_iff.1 hq
      have hd : s.ps[q]? = some (s.ps[q]'(by omega)) := List.getElem?_eq_getElem (by omega)
      refine .inr ⟨q, _, rfl, by rw [List.getElem?_map, hd]; rfl, ?_⟩
      have hs := h.fine.sorted
      rw [Tr.less_keys]
      have := List.pairwise_iff_getElem.1 hs q (q + 1) (by omega) i2 (by omega)
      rw [e2] at this
      exact decide_eq_true this
theorem rpl_rec {s : St} {c : Cm} (hs : s.Ok) (hc : c.Fit) (h0 : (doS s c).2.2.2 = 0) : rplS s (rec (doS s c).1 c) = some (doS s c).1 := by
  have hkl : c.key.data.toList.length = c.key.size := Array.length_toList ..
  by_cases hk : c.kind = 7
  · rw [doS_snap hk]
    unfold rec
    rw [if_pos hk]
    have e : recS s = be 1 7 ++ (be 8 s.now ++ (be 8 s.last ++ (be 2 s.l.length ++ (s.l.flatMap sessB ++ (be 2 s.ps.length ++ (s.ps.flatMap nodeB ++ [])))))) := by simp [recS]
    unfold rplS
    rw [e, rdN_put 1 7 _ (by decide)]
    simp only [if_true]
    rw [snap_put s hs [] (fun x hx => by
      obtain ⟨k, hk⟩ := List.mem_iff_getElem?.1 hx
      obtain ⟨h1, h2, h3, h4, _⟩ := hs.good k x hk
      have := hs.last
      exact ⟨by omega, by omega⟩)]
    simp only
    rw [if_pos ⟨rfl, ⟨hs.len, hs.good⟩, goodT_of hs, hs.now⟩]
  · unfold rec
    rw [if_neg hk]
    have e : recC c = be 1 c.kind ++ (be 4 c.key.size ++ (c.key.data.toList ++ (be 4 c.val.length ++ (c.val ++ (be 8 c.want ++ (be 8 c.sess ++ (be 8 c.ticks ++ []))))))) := by simp [recC]
    unfold rplS
    have f1 := hc.key
    have f2 := hc.val
    rw [e, rdN_put 1 c.kind _ (by have := hc.kind; omega)]
    simp only [if_neg hk]
    rw [rdB_put c.key.size c.key.data.toList _ hkl (by omega)]
    simp only
    rw [rdB_put c.val.length c.val _ rfl (by omega)]
    simp only
    rw [rdN_put 8 _ _ (by have := hc.want; omega)]
    simp only
    rw [rdN_put 8 _ _ (by have := hc.sess; omega)]
    simp only
    rw [rdN_put 8 _ _ (by have := hc.ticks; omega)]
    simp only [strOf_data]
    rw [if_pos ⟨h0, trivial⟩]
end Go.Proofs.YtackmgmaippajaaGreat
