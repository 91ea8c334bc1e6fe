/-
  Lists of elements of several cells each.
-/
import Derived.Test.YtibigfglhpdjmaaDoorMem
namespace Go.Proofs.YtibigfglhpdjmaaDoor
open Go Go.RowKit

/-- How an element lies in cells. -/
structure Elem {E : Type} (cells : E → List Value) (s : Nat) : Prop where
  len : ∀ e, (cells e).length = s
  pos : 0 < s
  one : ∀ e, ∀ u ∈ cells e, u.oneCell' = true
section
variable {E : Type} {cells : E → List Value} {s : Nat}
theorem fl_len (h : Elem cells s) (es : List E) : (es.flatMap cells).length = es.length * s := by
  induction es with
  | nil => simp
  | cons e es ih => rw [List.flatMap_cons, List.length_append, ih, List.length_cons, h.len, Nat.add_mul]; omega
theorem fl_get (h : Elem cells s) {es : List E} {i j : Nat} {e : E} (he : es[i]? = some e) (hj : j < s) : (es.flatMap cells)[i * s + j]? = (cells e)[j]? := by
  induction es generalizing i with
  | nil => simp at he
  | cons x es ih =>
    rw [List.flatMap_cons]
    have hx := h.len x
    cases i with
    | zero =>
      simp at he; subst he
      rw [Nat.zero_mul, Nat.zero_add, List.getElem?_append_left (by omega)]
    | succ i =>
      simp at he
      rw [Nat.add_mul, Nat.one_mul, List.getElem?_append_right (by omega), hx, show i * s + s + j - s = i * s + j by omega]
      exact ih he
theorem fl_take (h : Elem cells s) (es : List E) (i : Nat) : (es.flatMap cells).take (i * s) = (es.take i).flatMap cells := by
  induction es generalizing i with
  | nil => simp
  | cons e es ih =>
    cases i with
    | zero => simp
    | succ i =>
      rw [List.flatMap_cons, List.take_succ_cons, List.flatMap_cons, List.take_append, h.len, Nat.add_mul, Nat.one_mul, Nat.add_sub_cancel, ih, List.take_of_length_le (by rw [h.len]; omega)]
theorem fl_drop (h : Elem cells s) (es : List E) (i : Nat) : (es.flatMap cells).drop (i * s) = (es.drop i).flatMap cells := by
  induction es generalizing i with
  | nil => simp
  | cons e es ih =>
    cases i with
    | zero => simp
    | succ i =>
      rw [List.flatMap_cons, List.drop_succ_cons, List.drop_append, h.len, Nat.add_mul, Nat.one_mul, Nat.add_sub_cancel, ih, List.drop_of_length_le (by rw [h.len]; omega), List.nil_append]
theorem fl_one (h : Elem cells s) (es : List E) : ∀ u ∈ es.flatMap cells, u.oneCell' = true := by
  intro u hu
  obtain ⟨e, _, hu⟩ := List.mem_flatMap.1 hu
  exact h.one e u hu
theorem fl_row (h : Elem cells s) {w : World} {b off n cap : Nat} {es : List E} (ho : Own w s (some ⟨b, off, none⟩) n cap (es.flatMap cells)) (hes : es.length = n) (i : Nat) : Row w (if cap = i then some ⟨b, off, none⟩ else some ⟨b, off + i * s, none⟩) ((es.drop i).flatMap cells) := by
  by_cases hc : cap = i
  · rw [if_pos hc]
    have hle := ho.le
    rw [List.drop_of_length_le (by omega)]
    exact fun h => absurd rfl h
  · rw [if_neg hc, ← fl_drop h]
    exact ho.row.drop (i * s)
theorem fl_own_len (h : Elem cells s) {w : World} {lo : Option Addr} {n cap : Nat} {es : List E} (ho : Own w s lo n cap (es.flatMap cells)) : es.length = n := by
  have := ho.len
  rw [fl_len h] at this
  exact Nat.eq_of_mul_eq_mul_right h.pos this
theorem fl_at (h : Elem cells s) {w : World} {lo : Option Addr} {n cap i : Nat} {es : List E} {e : E} (ho : Own w s lo n cap (es.flatMap cells)) (he : es[i]? = some e) :
    ∃ b off, lo = some ⟨b, off, none⟩ ∧ ∀ j v, (cells e)[j]? = some v → w.cell? ⟨b, off + (i * s + j), none⟩ = some v ∧ w.frozen? ⟨b, off + (i * s + j), none⟩ = false := by
  have hlen := fl_own_len h ho
  have hi := (List.getElem?_eq_some_iff.1 he).1
  cases hlo : lo with
  | none => have := ho.nil hlo; have := ho.le; omega
  | some a =>
    obtain ⟨b, off, sp⟩ := a
    have := (ho.at_ _ hlo).1
    simp at this
    subst this; subst hlo
    refine ⟨b, off, rfl, fun j v hv => ho.cellAt ?_⟩
    have hj : j < s := by
      have := (List.getElem?_eq_some_iff.1 hv).1
      rwa [h.len] at this
    rw [fl_get h he hj, hv]
theorem fl_set3 (h : Elem cells 3) (es : List E) (i : Nat) (e : E) (v0 v1 v2 : Value) (hc : cells e = [v0, v1, v2]) (hi : i < es.length) : (((es.flatMap cells).set (i * 3) v0).set (i * 3 + 1) v1).set (i * 3 + 2) v2 = (es.set i e).flatMap cells := by
  induction es generalizing i with
  | nil => simp at hi
  | cons x es ih =>
    have hx := h.len x
    obtain ⟨a0, a1, a2, hx⟩ : ∃ a0 a1 a2, cells x = [a0, a1, a2] := by
      match hl : cells x, hx with
      | [a0, a1, a2], _ => exact ⟨a0, a1, a2, rfl⟩
    cases i with
    | zero => simp [hx, hc]
    | succ i =>
      simp at hi
      rw [List.set_cons_succ, List.flatMap_cons, List.flatMap_cons, ← ih i hi, hx]
      rw [show (i + 1) * 3 = i * 3 + 1 + 1 + 1 by omega]
      simp
end
/-- A predicate handed to slices: what it answers, and what it does on the way. St l F w: what is so behind the elements l, its own blocks being F. -/
structure DelBy {E : Type} (P : Program) (f : Nat) (caps : Array Value) (val : E → Value) (pr : E → Bool) (es : List E) (St : List E → List Nat → World → Prop) : Prop where
  fn : ∀ args w, (callFunc f args).run P w = .ok (.enter f args) w
  by' : ∀ l e F w1, l ++ [e] <+: es → St l F w1 → Calls P f (#[val e] ++ caps) w1 fun r w2 => r = .returned (.bool (pr e)) ∧ ∃ F', St (l ++ [e]) F' w2 ∧ Chg (· ∈ F) w1 w2 ∧ ∀ k ∈ F', k ∈ F ∨ w1.heap.size ≤ k
  keep : ∀ l F (S : Nat → Prop) w1 w2, St l F w1 → Chg S w1 w2 → (∀ k ∈ F, ¬ S k) → St l F w2
  lt : ∀ l F w, St l F w → ∀ k ∈ F, k < w.heap.size
/-- One that only reads. -/
theorem DelBy.pure {E : Type} {P : Program} {f : Nat} {caps : Array Value} {val : E → Value} {pr : E → Bool} (es : List E) (c : Nat) (v : Value) (t : TypeId) (fn : ∀ args w, (callFunc f args).run P w = .ok (.enter f args) w)
    (h : ∀ e w, w.heap[c]? = some (.cells #[v] t (0, 0)) → Calls P f (#[val e] ++ caps) w fun r w2 => r = .returned (.bool (pr e)) ∧ Below w.heap.size w w2) :
    DelBy P f caps val pr es (fun _ F w => F = [c] ∧ w.heap[c]? = some (.cells #[v] t (0, 0))) := by
  refine ⟨fn, ?_, ?_, ?_⟩
  · rintro l e F w1 _ ⟨rfl, hc⟩
    refine (h e w1 hc).mono ?_
    rintro r w2 ⟨rfl, hb⟩
    exact ⟨rfl, [c], ⟨rfl, (Chg.of_below hb (fun _ => False)).heap hc (fun h => h)⟩, Chg.of_below hb _, fun k hk => .inl hk⟩
  · rintro l F S w1 w2 ⟨rfl, hc⟩ hch hS
    exact ⟨rfl, hch.heap hc (hS c (by simp))⟩
  · rintro l F w ⟨rfl, hc⟩ k hk
    rw [List.mem_singleton] at hk
    subst hk
    exact heap_lt hc
end Go.Proofs.YtibigfglhpdjmaaDoor
