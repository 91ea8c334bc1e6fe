/-
  LAYER 8: what holds of a state at any time, in plain words.
-/
import Derived.Test.YtackmgmaippajaaGreatMtP
import Derived.Test.YtackmgmaippajaaGreatFTd
namespace Go.Proofs.YtackmgmaippajaaGreat
open Go Go.RowKit

/-- Sessions as a book has them: their numbers rise. -/
structure Ids (last : Nat) (l : List Ls.Sess) : Prop where
  each : ∀ e ∈ l, 1 ≤ e.id ∧ e.id ≤ last ∧ 1 ≤ e.life ∧ e.life ≤ 1099511627776
  rise : l.Pairwise (fun a b => a.id < b.id)
theorem Ids.nil (last : Nat) : Ids last [] := ⟨by simp, by simp⟩
theorem Ids.good {last : Nat} {l : List Ls.Sess} (h : Ids last l) : ∀ k e, l[k]? = some e → Ls.Good last l k e := by
  intro k e hk
  obtain ⟨h1, h2, h3, h4⟩ := h.each e (List.mem_of_getElem? hk)
  refine ⟨h1, h2, h3, h4, ?_⟩
  rcases Nat.eq_zero_or_pos k with h0 | h0
  · exact .inl h0
  · obtain ⟨q, rfl⟩ : ∃ q, k = q + 1 := ⟨k - 1, by omega⟩
    obtain ⟨i2, e2⟩ := List.getElem?_eq_some_iff.1 hk
    obtain ⟨d, hd⟩ : ∃ d, l[q]? = some d := ⟨_, List.getElem?_eq_getElem (by omega)⟩
    obtain ⟨i1, e1⟩ := List.getElem?_eq_some_iff.1 hd
    have := List.pairwise_iff_getElem.1 h.rise q (q + 1) i1 i2 (by omega)
    rw [e1, e2] at this
    exact .inr ⟨q, d, rfl, hd, this⟩
theorem Ids.of_good {last : Nat} {l : List Ls.Sess} (h : ∀ k e, l[k]? = some e → Ls.Good last l k e) : Ids last l := by
  refine ⟨fun e he => ?_, ?_⟩
  · obtain ⟨k, hk⟩ := List.mem_iff_getElem?.1 he
    obtain ⟨h1, h2, h3, h4, _⟩ := h k e hk
    exact ⟨h1, h2, h3, h4⟩
  · have step : ∀ (k : Nat) (h1 : k + 1 < l.length), (l[k]'(by omega)).id < l[k + 1].id := by
      intro k h1
      obtain ⟨_, _, _, _, h5⟩ := h (k + 1) l[k + 1] (List.getElem?_eq_getElem h1)
      rcases h5 with h5 | ⟨q, d, hq, hd, hlt⟩
      · omega
      · obtain rfl : q = k := by omega
        have := (List.getElem?_eq_some_iff.1 hd).2
        rw [this]; exact hlt
    rw [List.pairwise_iff_getElem]
    intro i j hi hj hij
    obtain ⟨n, rfl⟩ : ∃ n, j = i + 1 + n := ⟨j - i - 1, by omega⟩
    clear hij
    induction n with
    | zero => exact step i hj
    | succ n ih =>
      have h1 := ih (by omega)
      have h2 := step (i + 1 + n) (by omega)
      have e : l[i + 1 + (n + 1)] = l[i + 1 + n + 1] := rfl
      rw [e]; omega
theorem Ids.sub {last : Nat} {l m : List Ls.Sess} (h : Ids last l) (hs : m.Sublist l) : Ids last m := ⟨fun e he => h.each e (hs.subset he), h.rise.sublist hs⟩
theorem Ids.opens {last now life : Nat} {l : List Ls.Sess} (h : Ids last l) : Ids (Ls.openL last l now life).2.1 (Ls.openL last l now life).2.2 := by
  unfold Ls.openL
  split
  · exact h
  · split
    · refine ⟨fun e he => ?_, ?_⟩
      · rcases List.mem_append.1 he with he | he
        · have := h.each e he; dsimp only; omega
        · rw [List.mem_singleton] at he; subst he; dsimp only; omega
      · rw [List.pairwise_append]
        refine ⟨h.rise, by simp, fun a ha b hb => ?_⟩
        rw [List.mem_singleton] at hb
        subst hb
        have := h.each a ha
        dsimp only; omega
    · exact h
theorem renew_ids : ∀ (l : List Ls.Sess) (id now : Nat), (Ls.renewL l id now).1.map (·.id) = l.map (·.id) ∧ (Ls.renewL l id now).1.map (·.life) = l.map (·.life)
  | [], _, _ => ⟨rfl, rfl⟩
  | e :: l, id, now => by
    rw [Ls.renewL]
    split
    · split <;> exact ⟨rfl, rfl⟩
    · obtain ⟨h1, h2⟩ := renew_ids l id now
      exact ⟨by simp [h1], by simp [h2]⟩
theorem Ids.renews {last id now : Nat} {l : List Ls.Sess} (h : Ids last l) : Ids last (Ls.renewL l id now).1 := by
  obtain ⟨h1, h2⟩ := renew_ids l id now
  generalize (Ls.renewL l id now).1 = m at *
  have hp : (m.map (·.id)).Pairwise (· < ·) := by rw [h1, List.pairwise_map]; exact h.rise
  refine ⟨fun e he => ?_, by rw [List.pairwise_map] at hp; exact hp⟩
  obtain ⟨k, hk⟩ := List.mem_iff_getElem?.1 he
  have g1 := congrArg (·[k]?) h1
  have g2 := congrArg (·[k]?) h2
  simp only [List.getElem?_map, hk, Option.map_some] at g1 g2
  cases hd : l[k]? with
  | none => rw [hd] at g1; cases g1
  | some x =>
    rw [hd] at g1 g2
    have e1 : e.id = x.id := by simpa using g1
    have e2 : e.life = x.life := by simpa using g2
    have := h.each x (List.mem_of_getElem? hd)
    omega
theorem close_sub : ∀ (l : List Ls.Sess) (id : Nat), (Ls.closeL l id).1.Sublist l
  | [], _ => by simp [Ls.closeL]
  | e :: l, id => by
    rw [Ls.closeL]
    split
    · exact List.sublist_cons_self ..
    · exact (close_sub l id).cons_cons e
theorem renew_ends : ∀ (l : List Ls.Sess) (id now : Nat), now < 18446744073709551616 → (∀ e ∈ l, e.ends < 18446744073709551616 ∧ e.life < 18446744073709551616) → ∀ e ∈ (Ls.renewL l id now).1, e.ends < 18446744073709551616
  | [], _, _, _, _ => by simp [Ls.renewL]
  | x :: l, id, now, hn, h => by
    rw [Ls.renewL]
    have hx := h x (by simp)
    split
    · split
      · exact fun e he => (h e he).1
      · intro e he
        rcases List.mem_cons.1 he with rfl | he
        · have := Ls.endsOf_lt now x.life hn hx.2; dsimp only; omega
        · exact (h e (by simp [he])).1
    · intro e he
      rcases List.mem_cons.1 he with rfl | he
      · exact hx.1
      · exact renew_ends l id now hn (fun e he => h e (by simp [he])) e he
theorem open_ends {last now life : Nat} {l : List Ls.Sess} (hn : now < 18446744073709551616) (h : ∀ e ∈ l, e.ends < 18446744073709551616) : ∀ e ∈ (Ls.openL last l now life).2.2, e.ends < 18446744073709551616 := by
  unfold Ls.openL
  split
  · exact h
  · split
    · intro e he
      rcases List.mem_append.1 he with he | he
      · exact h e he
      · rw [List.mem_singleton] at he; subst he
        exact Ls.endsOf_lt now life hn (by omega)
    · exact h
/-- A state behind n puts. -/
structure St.Fit (s : St) (n : Nat) : Prop where
  fine : Tr.Fine s.ps
  nice : Tr.Nice s.ps n
  now : s.now ≤ 1099511627776
  last : s.last < 18446744073709551616
  len : s.l.length ≤ 16
  ids : Ids s.last s.l
  ends : ∀ e ∈ s.l, e.ends < 18446744073709551616
theorem St.Fit.ok {s : St} {n : Nat} (h : s.Fit n) : s.Ok :=
  ⟨h.fine, h.nice.key, fun x hx => (h.nice.ver x hx).1, h.now, h.last, h.len, h.ids.good, h.ends⟩
theorem St.Fit.new (n : Nat) : St.new.Fit n := ⟨Tr.Fine.nil, ⟨by simp [St.new], by simp [St.new]⟩, by simp [St.new], by simp [St.new], by simp [St.new], Ids.nil _, by simp [St.new]⟩
theorem Tr.Nice.up {ps : List Tr.Pl} {n m : Nat} (h : Tr.Nice ps n) (hm : n ≤ m) : Tr.Nice ps m := ⟨fun x hx => ⟨(h.ver x hx).1, Nat.le_trans (h.ver x hx).2 hm⟩, h.key⟩
theorem Tr.Nice.sub' {ps qs : List Tr.Pl} {n : Nat} (h : Tr.Nice ps n) (hs : ∀ x ∈ qs, x ∈ ps) : Tr.Nice qs n := ⟨fun x hx => h.ver x (hs x hx), fun x hx => h.key x (hs x hx)⟩
theorem drop_mem {ps : List Tr.Pl} {own : Nat} : ∀ x ∈ Tr.dropP ps own, x ∈ ps := by
  intro x hx
  unfold Tr.dropP at hx
  split at hx
  · exact hx
  · exact (List.mem_filter.1 hx).1
theorem del_mem {ps : List Tr.Pl} {key : ByteArray} {want : Nat} : ∀ x ∈ (Tr.delP ps key want).1, x ∈ ps := by
  intro x hx
  unfold Tr.delP at hx
  split at hx
  · exact hx
  · split at hx
    · exact hx
    · exact (Tr.delK_sub ps key).subset hx
theorem dropAll_mem : ∀ {ids : List Nat} {ps : List Tr.Pl}, ∀ x ∈ dropAll ps ids, x ∈ ps
  | [], _, _, hx => hx
  | i :: ids, ps, x, hx => drop_mem x (dropAll_mem (ids := ids) (ps := Tr.dropP ps i) x hx)
theorem dropAll_fine : ∀ {ids : List Nat} {ps : List Tr.Pl}, Tr.Fine ps → Tr.Fine (dropAll ps ids)
  | [], _, h => h
  | i :: ids, ps, h => dropAll_fine (ids := ids) (ps := Tr.dropP ps i) (h.drops i)
/-- A command keeps a state fit. -/
theorem St.Fit.did {s : St} {n : Nat} (h : s.Fit n) (hn : n < 9223372036854775807) {c : Cm} (hc : c.Fit) : (doS s c).1.Fit (n + 1) := by
  have hup : s.Fit (n + 1) := ⟨h.fine, h.nice.up (Nat.le_succ n), h.now, h.last, h.len, h.ids, h.ends⟩
  have hn64 : s.now < 18446744073709551616 := by have := h.now; omega
  have hlf : ∀ e ∈ s.l, e.ends < 18446744073709551616 ∧ e.life < 18446744073709551616 := fun e he => ⟨h.ends e he, by have := h.ids.each e he; omega⟩
  unfold doS
  split
  · exact hup
  split
  · exact ⟨h.fine.puts _ _ _ _ hc.sess, h.nice.puts _ _ _ _ hn, h.now, h.last, h.len, h.ids, h.ends⟩
  split
  · exact ⟨h.fine.dels _ _, hup.nice.sub' del_mem, h.now, h.last, h.len, h.ids, h.ends⟩
  split
  · refine ⟨h.fine, hup.nice, h.now, ?_, ?_, h.ids.opens, open_ends hn64 h.ends⟩
    · show (Ls.openL s.last s.l s.now c.ticks).2.1 < _
      unfold Ls.openL; split
      · exact h.last
      · split
        · dsimp only; omega
        · exact h.last
    · show (Ls.openL s.last s.l s.now c.ticks).2.2.length ≤ 16
      unfold Ls.openL; split
      · exact h.len
      · split
        · simp; omega
        · exact h.len
  split
  · refine ⟨h.fine, hup.nice, h.now, h.last, ?_, h.ids.renews, renew_ends _ _ _ hn64 hlf⟩
    have := congrArg List.length (renew_ids s.l c.sess s.now).1
    simp only [List.length_map] at this
    show (Ls.renewL s.l c.sess s.now).1.length ≤ 16
    rw [this]; exact h.len
  split
  · have hsub := close_sub s.l c.sess
    refine ⟨?_, ?_, h.now, h.last, Nat.le_trans hsub.length_le h.len, h.ids.sub hsub, fun e he => h.ends e (hsub.subset he)⟩
    · show Tr.Fine (if _ then _ else _)
      split
      · exact h.fine.drops _
      · exact h.fine
    · show Tr.Nice (if _ then _ else _) _
      split
      · exact hup.nice.sub' drop_mem
      · exact hup.nice
  split
  · have hsub : (Ls.stays s.l (s.now + min c.ticks (1099511627776 - s.now))).Sublist s.l := List.filter_sublist
    exact ⟨dropAll_fine h.fine, hup.nice.sub' dropAll_mem, by have := h.now; dsimp only; omega, h.last, Nat.le_trans hsub.length_le h.len, h.ids.sub hsub, fun e he => h.ends e (hsub.subset he)⟩
  split
  · exact hup
  · exact hup
end Go.Proofs.YtackmgmaippajaaGreat
