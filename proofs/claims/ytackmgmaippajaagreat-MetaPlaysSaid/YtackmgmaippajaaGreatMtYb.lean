/-
  LAYER 8: records, one behind the other, plainly; what holds of a state behind any of them.
-/
import Derived.Test.YtackmgmaippajaaGreatMtYa
import Derived.Test.YtackmgmaippajaaGreatMtQ
namespace Go.Proofs.YtackmgmaippajaaGreat
open Go Go.RowKit

theorem sorted_of : ∀ (ps : List Tr.Pl), (∀ k x y, ps[k]? = some x → ps[k + 1]? = some y → Tr.cmpB x.key y.key < 0) → Tr.Sorted ps
  | [], _ => List.Pairwise.nil
  | [x], _ => List.pairwise_singleton ..
  | x :: y :: l, h => by
    have ih := sorted_of (y :: l) (fun k a b ha hb => h (k + 1) a b (by simpa using ha) (by simpa using hb))
    have h0 : Tr.cmpB x.key y.key < 0 := h 0 x y rfl rfl
    refine List.pairwise_cons.2 ⟨fun z hz => ?_, ih⟩
    rcases List.mem_cons.1 hz with rfl | hz
    · exact h0
    · exact Tr.cb_neg_trans h0 (List.rel_of_pairwise_cons ih hz)
theorem goodT_fine {ps : List Tr.Pl} (h : GoodT ps) (hb : ∀ x ∈ ps, x.ver < 18446744073709551616 ∧ x.own < 18446744073709551616) : Tr.Fine ps := by
  obtain ⟨h1, h2⟩ := h
  have hg : ∀ k x, ps[k]? = some x → Tr.Good (ps.map fun x => ⟨x.key, x.body, x.ver, x.own, none, 0⟩) k ⟨x.key, x.body, x.ver, x.own, none, 0⟩ := fun k x hx => h2 k _ (by rw [List.getElem?_map, hx]; rfl)
  refine ⟨sorted_of ps fun k x y hx hy => ?_, by simpa using h1, fun x hx => ?_, fun x hx => (hb x hx).1, fun x hx => (hb x hx).2⟩
  · obtain ⟨_, _, _, _, h5⟩ := hg (k + 1) y hy
    rcases h5 with h5 | ⟨q, d, hq, hd, hlt⟩
    · omega
    · obtain rfl : q = k := by omega
      rw [List.getElem?_map, hx] at hd
      cases hd
      rw [Tr.less_keys] at hlt
      exact of_decide_eq_true hlt
  · obtain ⟨k, hk⟩ := List.mem_iff_getElem?.1 hx
    exact (hg k x hk).2.2.1
theorem many_all {α : Type} {f : List UInt8 → Option (α × List UInt8)} {P : α → Prop} (hf : ∀ bs x r, f bs = some (x, r) → P x) : ∀ (n : Nat) {bs r : List UInt8} {l : List α}, many f n bs = some (l, r) → ∀ x ∈ l, P x
  | 0, bs, r, l, h => by rw [many] at h; cases h; simp
  | n + 1, bs, r, l, h => by
    rw [many] at h
    split at h
    · cases h
    · rename_i x q hx
      split at h
      · cases h
      · rename_i l' q' hl
        cases h
        intro y hy
        rcases List.mem_cons.1 hy with rfl | hy
        · exact hf _ _ _ hx
        · exact many_all hf n hl y hy
theorem nodP_lt (bs : List UInt8) (x : Tr.Pl) (r : List UInt8) (h : nodP bs = some (x, r)) : x.ver < 18446744073709551616 ∧ x.own < 18446744073709551616 := by
  unfold nodP at h
  split at h
  · cases h
  · split at h
    · cases h
    · split at h
      · cases h
      · rename_i h3
        split at h
        · cases h
        · rename_i h4
          cases h
          exact ⟨by simpa using rdN_lt h3, by simpa using rdN_lt h4⟩
theorem snapP_lt {bs r : List UInt8} {now last : Nat} {l : List Ls.Sess} {ps : List Tr.Pl} (h : snapP bs = some ((now, last, l, ps), r)) : last < 18446744073709551616 ∧ ∀ x ∈ ps, x.ver < 18446744073709551616 ∧ x.own < 18446744073709551616 := by
  unfold snapP at h
  split at h
  · cases h
  · split at h
    · cases h
    · rename_i h2
      split at h
      · cases h
      · split at h
        · cases h
        · split at h
          · cases h
          · split at h
            · cases h
            · rename_i h6
              cases h
              exact ⟨by simpa using rdN_lt h2, many_all nodP_lt _ h6⟩
theorem doS_wk {s : St} (h : s.Wk) {c : Cm} (hc : c.Fit) : (doS s c).1.Wk := by
  unfold doS
  split
  · exact h
  split
  · exact ⟨h.fine.puts _ _ _ _ hc.sess, h.now, h.last, h.len, h.life⟩
  split
  · exact ⟨h.fine.dels _ _, h.now, h.last, h.len, h.life⟩
  split
  · refine ⟨h.fine, h.now, ?_, ?_, ?_⟩
    · show (Ls.openL s.last s.l s.now c.ticks).2.1 < _
      unfold Ls.openL; split
      · exact h.last
      · split
        · dsimp only; omega
        · exact h.last
    · show (Ls.openL s.last s.l s.now c.ticks).2.2.length ≤ 16
      unfold Ls.openL; split
      · exact h.len
      · split
        · simp; omega
        · exact h.len
    · show ∀ e ∈ (Ls.openL s.last s.l s.now c.ticks).2.2, _
      unfold Ls.openL; split
      · exact h.life
      · split
        · intro e he
          rcases List.mem_append.1 he with he | he
          · exact h.life e he
          · rw [List.mem_singleton] at he
            subst he
            dsimp only
            omega
        · exact h.life
  split
  · refine ⟨h.fine, h.now, h.last, ?_, fun e he => ?_⟩
    · have := congrArg List.length (renew_ids s.l c.sess s.now).1
      simp only [List.length_map] at this
      show (Ls.renewL s.l c.sess s.now).1.length ≤ 16
      rw [this]; exact h.len
    · have h1 : e.life ∈ (Ls.renewL s.l c.sess s.now).1.map (·.life) := List.mem_map_of_mem he
      rw [(renew_ids s.l c.sess s.now).2] at h1
      obtain ⟨d, hd, e2⟩ := List.mem_map.1 h1
      rw [← e2]; exact h.life d hd
  split
  · have hsub := close_sub s.l c.sess
    refine ⟨?_, h.now, h.last, Nat.le_trans hsub.length_le h.len, fun e he => h.life e (hsub.subset he)⟩
    show Tr.Fine (if _ then _ else _)
    split
    · exact h.fine.drops _
    · exact h.fine
  split
  · have hsub : (Ls.stays s.l (s.now + min c.ticks (1099511627776 - s.now))).Sublist s.l := List.filter_sublist
    exact ⟨dropAll_fine h.fine, by have := h.now; dsimp only; omega, h.last, Nat.le_trans hsub.length_le h.len, fun e he => h.life e (hsub.subset he)⟩
  split
  · exact h
  · exact h
theorem rplE_wk {s s' : St} {bs r : List UInt8} (hs : s.Wk) (hl : bs.length ≤ 5000) (h : rplE s bs = some (s', r)) : s'.Wk := by
  unfold rplE at h
  split at h
  · cases h
  · rename_i kind q h1
    have hk := rdN_lt h1
    have hq := rdN_len h1
    split at h
    · split at h
      · cases h
      · rename_i h2
        split at h
        · rename_i hg
          cases h
          obtain ⟨g1, g2, g3⟩ := hg
          have hb := snapP_lt h2
          refine ⟨goodT_fine g2 hb.2, g3, hb.1, g1.1, fun e he => ?_⟩
          obtain ⟨k, hk⟩ := List.mem_iff_getElem?.1 he
          obtain ⟨_, _, _, h4, _⟩ := g1.2 k e hk
          omega
        · cases h
    · split at h
      · cases h
      · rename_i h2
        split at h
        · cases h
          exact doS_wk hs (cmP_fit (by omega) (by omega) h2).1
        · cases h
theorem rplS_wk {s s' : St} {bs : List UInt8} (hs : s.Wk) (hl : bs.length ≤ 5000) (h : rplS s bs = some s') : s'.Wk := by
  rw [rplS_E] at h
  split at h
  · rename_i s2 h2
    cases h
    exact rplE_wk hs hl h2
  · cases h
/-- Records, one behind the other. -/
noncomputable def rplAll (s : St) : List (List UInt8) → Option St
  | [] => some s
  | b :: L => match rplS s b with
    | none => none
    | some s' => rplAll s' L
theorem rplAll_app {s : St} {L M : List (List UInt8)} : rplAll s (L ++ M) = match rplAll s L with
    | none => none
    | some s' => rplAll s' M := by
  induction L generalizing s with
  | nil => rfl
  | cons b L ih =>
    rw [List.cons_append, rplAll, rplAll]
    cases rplS s b with
    | none => rfl
    | some s' => exact ih
theorem St.new_wk : St.new.Wk := ⟨Tr.Fine.nil, by simp [St.new], by simp [St.new], by simp [St.new], by simp [St.new]⟩
end Go.Proofs.YtackmgmaippajaaGreat
