/-
  LAYER 8: a book, a tree of a list that is read: made, or refused.
-/
import Derived.Test.YtackmgmaippajaaGreatMtV
namespace Go.Proofs.YtackmgmaippajaaGreat
open Go Go.RowKit

theorem good_map {es : List Nd} {k : Nat} {e : Nd} : Tr.Good (es.map fun e => ⟨e.key, e.body, e.ver, e.own, none, 0⟩) k ⟨e.key, e.body, e.ver, e.own, none, 0⟩ ↔ Tr.Good es k e := by
  unfold Tr.Good
  constructor
  · rintro ⟨h1, h2, h3, h4, h5⟩
    refine ⟨h1, h2, h3, h4, ?_⟩
    rcases h5 with h5 | ⟨q, d, rfl, hd, hlt⟩
    · exact .inl h5
    · rw [List.getElem?_map] at hd
      cases hq : es[q]? with
      | none => rw [hq] at hd; cases hd
      | some x => rw [hq] at hd; cases hd; exact .inr ⟨q, x, rfl, hq, hlt⟩
  · rintro ⟨h1, h2, h3, h4, h5⟩
    refine ⟨h1, h2, h3, h4, ?_⟩
    rcases h5 with h5 | ⟨q, d, rfl, hd, hlt⟩
    · exact .inl h5
    · exact .inr ⟨q, ⟨d.key, d.body, d.ver, d.own, none, 0⟩, rfl, by rw [List.getElem?_map, hd]; rfl, hlt⟩
theorem valid_iff {es : List Nd} : GoodT (es.map Nd.pl) ↔ Tr.Valid es := by
  have e : (es.map Nd.pl).map (fun x => (⟨x.key, x.body, x.ver, x.own, none, 0⟩ : Nd)) = es.map fun e => ⟨e.key, e.body, e.ver, e.own, none, 0⟩ := by rw [List.map_map]; rfl
  unfold GoodT
  rw [e]
  unfold Tr.Valid
  rw [List.length_map]
  refine and_congr_right fun _ => ⟨fun h k x hx => good_map.1 (h k _ (by rw [List.getElem?_map, hx]; rfl)), fun h k x hx => ?_⟩
  rw [List.getElem?_map] at hx
  cases hq : es[k]? with
  | none => rw [hq] at hx; cases hx
  | some y => rw [hq] at hx; cases hx; exact good_map.2 (h k y hq)
/-- A book of a list that was read. -/
theorem new_rd (last : Nat) (ao : Option Addr) (n c : Nat) (l : List Ls.Sess) (w : World) (hn : l.length = n) (hr : Row w ao (l.flatMap Ls.Sess.cells)) (hm : n ≤ 1000000) :
    Calls Tryz.prog 66 #[.int .u64 (last : Int), .slice ao n c] w fun e w' => Below w.heap.size w w' ∧ ((GoodB last l ∧ ∃ p F, e = .returned (.tuple #[.pointer (some ⟨p, 0, none⟩), .bool true]) ∧ Ls.BookAt w' p last l F ∧ ∀ k ∈ F, w.heap.size ≤ k) ∨ (¬ GoodB last l ∧ e = .returned (.tuple #[.pointer none, .bool false]))) := by
  by_cases h16 : n ≤ 16
  · rcases Ls.first_bad last l n with hg | ⟨K, hK, e, he, hb, hg⟩
    · refine (Ls.new_ok last ao n c l w hn hr h16 hg).mono ?_
      rintro e w' ⟨p, F, rfl, hb, hk, hx⟩
      exact ⟨hb, .inl ⟨⟨by omega, fun k e he => hg k (by have := (List.getElem?_eq_some_iff.1 he).1; omega) e he⟩, p, F, rfl, hk, hx⟩⟩
    · refine (Ls.new_bad last ao n c K l w hn hr h16 hg ⟨e, he, hb⟩).mono ?_
      rintro r w' ⟨rfl, hbw⟩
      exact ⟨hbw, .inr ⟨fun h => hb (h.2 K e he), rfl⟩⟩
  · refine (Ls.new_long (last : Int) ao n c w (by omega) hm).mono ?_
    rintro r w' ⟨rfl, rfl⟩
    exact ⟨Below.refl _ _, .inr ⟨fun h => by have := h.1; omega, rfl⟩⟩
/-- A tree of a list that was read. -/
theorem load_rd (ao : Option Addr) (n c : Nat) (es : List Nd) (w : World) (hn : es.length = n) (hr : Tr.NodesAt w ao es) (hm : n ≤ 1000000) :
    Calls Tryz.prog 77 #[.slice ao n c] w fun e w' => Below w.heap.size w w' ∧ ((GoodT (es.map Nd.pl) ∧ ∃ p F, e = .returned (.tuple #[.pointer (some ⟨p, 0, none⟩), .bool true]) ∧ Tr.TreeAt w' p (es.map Nd.pl) F ∧ ∀ k ∈ F, w.heap.size ≤ k) ∨ (¬ GoodT (es.map Nd.pl) ∧ e = .returned (.tuple #[.pointer none, .bool false]))) := by
  by_cases hv : Tr.Valid es
  · refine (Tr.load_ok ao n c es w hn hr hv).mono ?_
    rintro e w' ⟨p, F, rfl, hb, ht, hx⟩
    exact ⟨hb, .inl ⟨valid_iff.2 hv, p, F, rfl, ht, hx⟩⟩
  · refine (Tr.load_false ao n c es w hn hr hm hv).mono ?_
    rintro e w' ⟨rfl, hb⟩
    exact ⟨hb, .inr ⟨fun h => hv (valid_iff.1 h), rfl⟩⟩
theorem new_rd2 (last : Nat) (ao : Option Addr) (n c : Nat) (l : List Ls.Sess) (w : World) (hn : l.length = n) (hr : Row w ao (l.flatMap Ls.Sess.cells)) (hm : n ≤ 1000000) :
    Calls Tryz.prog 66 #[.int .u64 (last : Int), .slice ao n c] w fun e w' => ∃ (ok : Bool) (po : Option Addr), e = .returned (.tuple #[.pointer po, .bool ok]) ∧ Below w.heap.size w w' ∧ (ok = true → GoodB last l ∧ ∃ p F, po = some ⟨p, 0, none⟩ ∧ Ls.BookAt w' p last l F ∧ ∀ k ∈ F, w.heap.size ≤ k) ∧ (ok = false → ¬ GoodB last l) := by
  refine (new_rd last ao n c l w hn hr hm).mono ?_
  rintro e w' ⟨hb, ⟨hg, p, F, rfl, hk, hx⟩ | ⟨hg, rfl⟩⟩
  · exact ⟨true, _, rfl, hb, fun _ => ⟨hg, p, F, rfl, hk, hx⟩, (fun h => by cases h)⟩
  · exact ⟨false, _, rfl, hb, (fun h => by cases h), fun _ => hg⟩
theorem load_rd2 (ao : Option Addr) (n c : Nat) (es : List Nd) (w : World) (hn : es.length = n) (hr : Tr.NodesAt w ao es) (hm : n ≤ 1000000) :
    Calls Tryz.prog 77 #[.slice ao n c] w fun e w' => ∃ (ok : Bool) (po : Option Addr), e = .returned (.tuple #[.pointer po, .bool ok]) ∧ Below w.heap.size w w' ∧ (ok = true → GoodT (es.map Nd.pl) ∧ ∃ p F, po = some ⟨p, 0, none⟩ ∧ Tr.TreeAt w' p (es.map Nd.pl) F ∧ ∀ k ∈ F, w.heap.size ≤ k) ∧ (ok = false → ¬ GoodT (es.map Nd.pl)) := by
  refine (load_rd ao n c es w hn hr hm).mono ?_
  rintro e w' ⟨hb, ⟨hg, p, F, rfl, hk, hx⟩ | ⟨hg, rfl⟩⟩
  · exact ⟨true, _, rfl, hb, fun _ => ⟨hg, p, F, rfl, hk, hx⟩, (fun h => by cases h)⟩
  · exact ⟨false, _, rfl, hb, (fun h => by cases h), fun _ => hg⟩
/-! ### Fail -/
theorem fail_zero (r : Value) (w : World) : Calls Tryz.prog 74 #[r, .int .i64 0] w fun e w' => e = .returned (.tuple #[]) ∧ w = w' := by
  go_enter Tryz.func74, Tryz.ntmps74
  go_wp2
  go_end0
  exact ⟨rfl, rfl⟩
theorem fail_code (r : Value) (code : Int) (w : World) (h : code ≠ 0) : Calls Tryz.prog 74 #[r, .int .i64 code] w fun e w' => e = .panicked (thrown code) ∧ w = w' := by
  have e2 : ((code : Int) != 0) = true := by simpa using h
  go_enter Tryz.func74, Tryz.ntmps74
  go_wp2
  exact ⟨rfl, rfl, rfl⟩
end Go.Proofs.YtackmgmaippajaaGreat
