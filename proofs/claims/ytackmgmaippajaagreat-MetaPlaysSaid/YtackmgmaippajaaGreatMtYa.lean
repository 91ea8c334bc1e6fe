/-
  LAYER 8: what a record makes of a state, and what is left of it, plainly.
-/
import Derived.Test.YtackmgmaippajaaGreatMtY
import Derived.Test.YtackmgmaippajaaGreatMtRa
namespace Go.Proofs.YtackmgmaippajaaGreat
open Go Go.RowKit

/-- A command out of its record's bytes, behind its kind. -/
def cmP (kind : Nat) (bs : List UInt8) : Option (Cm × List UInt8) :=
  match rdB bs with
  | none => none
  | some (key, r) => match rdB r with
    | none => none
    | some (val, r) => match many (rdN 8) 3 r with
      | none => none
      | some (l, r) => some (⟨kind, strOf key, val, l.getD 0 0, l.getD 1 0, l.getD 2 0⟩, r)
open Classical in
/-- What a record's bytes make of a state, and what is left of them. -/
noncomputable def rplE (s : St) (bs : List UInt8) : Option (St × List UInt8) :=
  match rdN 1 bs with
  | none => none
  | some (kind, r) =>
    if kind = 7 then
      match snapP r with
      | none => none
      | some ((now, last, l, ps), r) => if GoodB last l ∧ GoodT ps ∧ now ≤ 1099511627776 then some (⟨now, ps, last, l⟩, r) else none
    else match cmP kind r with
      | none => none
      | some (c, r) => if (doS s c).2.2.2 = 0 then some ((doS s c).1, r) else none
theorem rplS_E (s : St) (bs : List UInt8) : rplS s bs = match rplE s bs with
    | some (s', []) => some s'
    | _ => none := by
  unfold rplS rplE cmP
  cases rdN 1 bs with
  | none => rfl
  | some q =>
    obtain ⟨kind, r⟩ := q
    by_cases hk : kind = 7
    · simp only [hk, if_true]
      cases snapP r with
      | none => rfl
      | some q =>
        obtain ⟨⟨now, last, l, ps⟩, r⟩ := q
        simp only
        by_cases hg : GoodB last l ∧ GoodT ps ∧ now ≤ 1099511627776
        · rw [if_pos hg]
          cases r with
          | nil => rw [if_pos ⟨rfl, hg⟩]
          | cons b r => rw [if_neg (fun h => by cases h.1)]
        · rw [if_neg hg, if_neg (fun h => hg h.2)]
    · simp only [hk, if_false]
      cases rdB r with
      | none => rfl
      | some q =>
        obtain ⟨key, r⟩ := q
        simp only
        cases rdB r with
        | none => rfl
        | some q =>
          obtain ⟨val, r⟩ := q
          simp only [many]
          cases rdN 8 r with
          | none => rfl
          | some q =>
            obtain ⟨a, r⟩ := q
            simp only
            cases rdN 8 r with
            | none => rfl
            | some q =>
              obtain ⟨b, r⟩ := q
              simp only
              cases rdN 8 r with
              | none => rfl
              | some q =>
                obtain ⟨c, r⟩ := q
                simp only [List.getD_cons_zero, List.getD_cons_succ]
                by_cases h0 : (doS s ⟨kind, strOf key, val, a, b, c⟩).2.2.2 = 0
                · rw [if_pos h0]
                  cases r with
                  | nil => rw [if_pos ⟨h0, rfl⟩]
                  | cons x r => rw [if_neg (fun h => by cases h.2)]
                · rw [if_neg h0, if_neg (fun h => h0 h.1)]
theorem rplE_none1 {s : St} {bs : List UInt8} (h : rdN 1 bs = none) : rplE s bs = none := by
  unfold rplE; rw [h]
theorem rplE_bad {s : St} {bs r : List UInt8} (h : rdN 1 bs = some (7, r)) (hb : SnapBad r) : rplE s bs = none := by
  unfold rplE
  rw [h]
  simp only [if_true]
  cases hs : snapP r with
  | none => rfl
  | some q =>
    obtain ⟨⟨now, last, l, ps⟩, r'⟩ := q
    simp only
    rw [if_neg]
    rintro ⟨h1, h2, h3⟩
    exact hb ⟨now, ps, last, l⟩ r' ⟨hs, h1, h2, h3⟩
theorem rplE_good {s s' : St} {bs r r' : List UInt8} (h : rdN 1 bs = some (7, r)) (hg : SnapGood r s' r') : rplE s bs = some (s', r') := by
  obtain ⟨h1, h2, h3, h4⟩ := hg
  unfold rplE
  rw [h]
  simp only [if_true, h1]
  rw [if_pos ⟨h2, h3, h4⟩]
theorem rplE_cmd {s : St} {bs r : List UInt8} {kind : Nat} (h : rdN 1 bs = some (kind, r)) (hk : kind ≠ 7) : rplE s bs = match cmP kind r with
      | none => none
      | some (c, r) => if (doS s c).2.2.2 = 0 then some ((doS s c).1, r) else none := by
  unfold rplE
  rw [h]
  simp only [if_neg hk]
/-! ### what was read is as great as it may be -/
theorem many_u64 : ∀ (n : Nat) {bs r : List UInt8} {l : List Nat}, many (rdN 8) n bs = some (l, r) → l.length = n ∧ r.length ≤ bs.length ∧ ∀ x ∈ l, x < 18446744073709551616
  | 0, bs, r, l, h => by
    rw [many] at h
    cases h
    simp
  | n + 1, bs, r, l, h => by
    rw [many] at h
    split at h
    · cases h
    · rename_i x q hx
      split at h
      · cases h
      · rename_i l' q' hl
        cases h
        have h1 := rdN_len hx
        have h2 := rdN_lt hx
        obtain ⟨i1, i2, i3⟩ := many_u64 n hl
        refine ⟨by simp [i1], by omega, fun y hy => ?_⟩
        rcases List.mem_cons.1 hy with rfl | hy
        · simpa using h2
        · exact i3 y hy
theorem many_len {α : Type} {f : List UInt8 → Option (α × List UInt8)} (hf : ∀ bs x r, f bs = some (x, r) → r.length ≤ bs.length) : ∀ (n : Nat) {bs r : List UInt8} {l : List α}, many f n bs = some (l, r) → r.length ≤ bs.length
  | 0, bs, r, l, h => by rw [many] at h; cases h; exact Nat.le_refl _
  | n + 1, bs, r, l, h => by
    rw [many] at h
    split at h
    · cases h
    · rename_i x q hx
      split at h
      · cases h
      · rename_i l' q' hl
        cases h
        exact Nat.le_trans (many_len hf n hl) (hf _ _ _ hx)
theorem rdN_le {k n : Nat} {bs r : List UInt8} (h : rdN k bs = some (n, r)) : r.length ≤ bs.length := by have := rdN_len h; omega
theorem rdB_le {bs ys r : List UInt8} (h : rdB bs = some (ys, r)) : r.length ≤ bs.length := by have := rdB_len h; omega
theorem sessP_len (bs : List UInt8) (x : Ls.Sess) (r : List UInt8) (h : sessP bs = some (x, r)) : r.length ≤ bs.length := by
  unfold sessP at h
  split at h
  · cases h
  · rename_i h1
    split at h
    · cases h
    · rename_i h2
      split at h
      · cases h
      · rename_i h3
        cases h
        exact Nat.le_trans (rdN_le h3) (Nat.le_trans (rdN_le h2) (rdN_le h1))
theorem nodP_len (bs : List UInt8) (x : Tr.Pl) (r : List UInt8) (h : nodP bs = some (x, r)) : r.length ≤ bs.length := by
  unfold nodP at h
  split at h
  · cases h
  · rename_i h1
    split at h
    · cases h
    · rename_i h2
      split at h
      · cases h
      · rename_i h3
        split at h
        · cases h
        · rename_i h4
          cases h
          exact Nat.le_trans (rdN_le h4) (Nat.le_trans (rdN_le h3) (Nat.le_trans (rdB_le h2) (rdB_le h1)))
theorem snapP_len {bs r : List UInt8} {x : Nat × Nat × List Ls.Sess × List Tr.Pl} (h : snapP bs = some (x, r)) : r.length ≤ bs.length := by
  unfold snapP at h
  split at h
  · cases h
  · rename_i h1
    split at h
    · cases h
    · rename_i h2
      split at h
      · cases h
      · rename_i h3
        split at h
        · cases h
        · rename_i h4
          split at h
          · cases h
          · rename_i h5
            split at h
            · cases h
            · rename_i h6
              cases h
              exact Nat.le_trans (many_len nodP_len _ h6) (Nat.le_trans (rdN_le h5) (Nat.le_trans (many_len sessP_len _ h4) (Nat.le_trans (rdN_le h3) (Nat.le_trans (rdN_le h2) (rdN_le h1)))))
theorem cmP_len {kind : Nat} {bs r : List UInt8} {c : Cm} (h : cmP kind bs = some (c, r)) : r.length ≤ bs.length := by
  unfold cmP at h
  split at h
  · cases h
  · rename_i h1
    split at h
    · cases h
    · rename_i h2
      split at h
      · cases h
      · rename_i h3
        cases h
        exact Nat.le_trans (many_u64 3 h3).2.1 (Nat.le_trans (rdB_le h2) (rdB_le h1))
theorem rplE_len {s s' : St} {bs r : List UInt8} (h : rplE s bs = some (s', r)) : r.length ≤ bs.length := by
  unfold rplE at h
  split at h
  · cases h
  · rename_i h1
    split at h
    · split at h
      · cases h
      · rename_i h2
        split at h
        · cases h
          exact Nat.le_trans (snapP_len h2) (rdN_le h1)
        · cases h
    · split at h
      · cases h
      · rename_i h2
        split at h
        · cases h
          exact Nat.le_trans (cmP_len h2) (rdN_le h1)
        · cases h
theorem cmP_fit {kind : Nat} {bs r : List UInt8} {c : Cm} (hk : kind < 256) (hl : bs.length ≤ 5000) (h : cmP kind bs = some (c, r)) : c.Fit ∧ c.kind = kind := by
  unfold cmP at h
  split at h
  · cases h
  · rename_i key q hq
    split at h
    · cases h
    · rename_i val q' hq'
      split at h
      · cases h
      · rename_i l q'' hl'
        cases h
        have h1 := rdB_len hq
        have h2 := rdB_len hq'
        obtain ⟨i1, i2, i3⟩ := many_u64 3 hl'
        obtain ⟨a, b, c, rfl⟩ : ∃ a b c, l = [a, b, c] := by
          match l, i1 with
          | [a, b, c], _ => exact ⟨a, b, c, rfl⟩
        have hks : (strOf key).size = key.length := by simp [strOf, ByteArray.size]
        refine ⟨⟨hk, by show (strOf key).size ≤ _; omega, by show val.length ≤ _; omega, i3 _ (by simp), i3 _ (by simp), i3 _ (by simp)⟩, rfl⟩
end Go.Proofs.YtackmgmaippajaaGreat
