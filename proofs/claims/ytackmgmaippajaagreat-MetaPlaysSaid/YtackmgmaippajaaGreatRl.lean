/-
  LAYER 8: the document's state and the program's, alike; a state that is copied.
-/
import Derived.Test.YtackmgmaippajaaGreatRq
import Derived.Test.YtackmgmaippajaaGreatMtQ
namespace Go.Proofs.YtackmgmaippajaaGreat
open Go Go.RowKit

/-- The program's state and the document's: the same but for the order of keys. -/
structure LikeS (s0 s : St) : Prop where
  now : s0.now = s.now
  last : s0.last = s.last
  l : s0.l = s.l
  ps : Tr.Like s0.ps s.ps
theorem LikeS.refl (s : St) : LikeS s s := ⟨rfl, rfl, rfl, List.Perm.refl _⟩
theorem like_drops : ∀ (ids : List Nat) {ps rs : List Tr.Pl}, Tr.Like ps rs → Tr.Like (dropAll ps ids) (dropAll rs ids)
  | [], _, _, h => h
  | i :: ids, ps, rs, h => like_drops ids (ps := Tr.dropP ps i) (rs := Tr.dropP rs i) (Tr.like_drop h i)
theorem like_late {s0 s : St} (h : LikeS s0 s) (c : Cm) : late s c = late s0 c := by
  unfold late
  rw [h.now, h.l]
theorem like_do {s0 s : St} (h : LikeS s0 s) (hs : Tr.Sorted s0.ps) (c : Cm) : LikeS (doS s0 c).1 (doD s c).1 ∧ (doD s c).2 = (doS s0 c).2 := by
  unfold doD doS
  rw [like_late h c]
  obtain ⟨now0, ps0, last0, l0⟩ := s0
  obtain ⟨now, ps, last, l⟩ := s
  obtain ⟨h1, h2, h3, h4⟩ := h
  dsimp only at h1 h2 h3 h4 hs
  subst h1 h2 h3
  have hp := Tr.like_put h4 hs c.key c.val c.want c.sess
  have hd := Tr.like_del h4 hs c.key c.want
  split
  · exact ⟨⟨rfl, rfl, rfl, h4⟩, rfl⟩
  split
  · exact ⟨⟨rfl, rfl, rfl, hp.1⟩, by dsimp only; rw [hp.2]⟩
  split
  · exact ⟨⟨rfl, rfl, rfl, hd.1⟩, by dsimp only; rw [hd.2]⟩
  split
  · exact ⟨⟨rfl, rfl, rfl, h4⟩, rfl⟩
  split
  · exact ⟨⟨rfl, rfl, rfl, h4⟩, rfl⟩
  split
  · refine ⟨⟨rfl, rfl, rfl, ?_⟩, rfl⟩
    dsimp only
    split
    · exact Tr.like_drop h4 _
    · exact h4
  split
  · exact ⟨⟨rfl, rfl, rfl, like_drops _ h4⟩, rfl⟩
  split
  · exact ⟨⟨rfl, rfl, rfl, h4⟩, rfl⟩
  · exact ⟨⟨rfl, rfl, rfl, h4⟩, rfl⟩
theorem LikeS.wr {s0 s : St} (h : LikeS s0 s) (hs : s0.Wk) : s.Wr :=
  ⟨by have := h.ps.length_eq; have := hs.fine.len; omega, h.now ▸ hs.now, h.last ▸ hs.last, h.l ▸ hs.len, h.l ▸ hs.life⟩
theorem listP_nil (ps : List Tr.Pl) : Tr.listP ps ⟨#[]⟩ = ps := Tr.listP_empty ps
theorem LikeS.sort {s0 s : St} (h : LikeS s0 s) (hs : Tr.Sorted s0.ps) : Tr.sortP (Tr.listP s.ps ⟨#[]⟩) = s0.ps := by
  rw [Tr.sort_like h.ps hs, listP_nil]
section
variable {w w' : World} {q N : Nat} {cs csN : Array Value} {t tN : TypeId} {s : St} {G F : List Nat}
theorem RsAt.copy (h : RsAt w q cs t s G F) (hh : w'.heap[N]? = some (.cells csN tN (0, 0))) (hc : Chg (· = N) w w') (hG : N ∉ G) (hF : N ∉ F) (h0 : csN[0]? = cs[0]?) (h1 : csN[1]? = cs[1]?) (h2 : csN[2]? = cs[2]?) (h3 : csN[3]? = cs[3]?) :
    RsAt w' N csN tN s (N :: G.filter (fun k => decide (k ≠ q))) (N :: F.filter (fun k => decide (k ≠ q))) := by
  refine ⟨h0.trans h.at0, ?_, ?_⟩
  · obtain ⟨lo, n, cap, l, ht⟩ := h.tree
    refine ⟨lo, n, cap, l, ht.map, hh, h1.trans ht.at1, ht.own.keep hc (fun a ha e => hG (e ▸ ht.bG _ (Tr.mem_blk.2 ⟨a, ha, rfl⟩))), fun hk => hG (ht.bG _ hk), fun e he => ⟨hc.row (ht.body e he).1 (fun a ha e2 => hG (e2 ▸ ((ht.body e he).2 a ha).1)), fun a ha => ?_⟩, List.mem_cons_self, fun k hk => ?_, fun k hk => ?_⟩
    · obtain ⟨g1, g2⟩ := (ht.body e he).2 a ha
      exact ⟨List.mem_cons_of_mem _ (List.mem_filter.2 ⟨g1, by simpa using g2⟩), fun e2 => hG (e2 ▸ g1)⟩
    · exact List.mem_cons_of_mem _ (List.mem_filter.2 ⟨ht.bG k hk, by simpa using (fun (e : k = q) => ht.apart (e ▸ hk))⟩)
    · rcases List.mem_cons.1 hk with rfl | hk
      · exact heap_lt hh
      · exact Nat.lt_of_lt_of_le (ht.lt k (List.mem_filter.1 hk).1) hc.size
  · obtain ⟨lo, n, cap, hb, ho, hq, hFe⟩ := h.book
    have hN : N ∉ Ls.blk lo := fun hk => hF (by rw [hFe]; exact List.mem_cons_of_mem _ hk)
    refine ⟨lo, n, cap, ⟨hh, h2.trans hb.at2, h3.trans hb.at3⟩, ho.keep hc (fun a ha e => hN (Ls.mem_blk.2 ⟨a, ha, e⟩)), hN, ?_⟩
    rw [hFe]
    congr 1
    rw [List.filter_cons, if_neg (by simp), List.filter_eq_self]
    intro k hk
    simpa using (fun (e : k = q) => hq (e ▸ hk))
theorem RsAt.at1 (h : RsAt w q cs t s G F) : ∃ v, cs[1]? = some v := h.tree.at1
theorem RsAt.four (h : RsAt w q cs t s G F) : ∃ v1 v2 v3, cs[1]? = some v1 ∧ cs[2]? = some v2 ∧ cs[3]? = some v3 := by
  obtain ⟨v1, h1⟩ := h.tree.at1
  obtain ⟨lo, n, cap, hb, _⟩ := h.book
  exact ⟨v1, _, _, h1, hb.at2, hb.at3⟩
theorem RsAt.ltG (h : RsAt w q cs t s G F) : ∀ k ∈ G, k < w.heap.size := h.tree.lt
theorem RsAt.ltF (h : RsAt w q cs t s G F) : ∀ k ∈ F, k < w.heap.size := h.book.lt
end
end Go.Proofs.YtackmgmaippajaaGreat
