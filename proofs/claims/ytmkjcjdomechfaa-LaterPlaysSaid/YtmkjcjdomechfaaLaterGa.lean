/-
  LAYER 19: the document's list: Order.
-/
import Derived.Test.YtmkjcjdomechfaaLaterE
namespace Go.Proofs.Ytmkjcjdomechfaa
open Go Go.RowKit

def rOrd (a b c d : Nat) : Int := if a < c then -1 else if a = c then (if b < d then -1 else if b = d then 0 else 1) else 1
theorem rOrd_neg {a b c d : Nat} : rOrd a b c d < 0 ↔ a < c ∨ a = c ∧ b < d := by
  unfold rOrd
  split
  · omega
  · split
    · split
      · omega
      · split <;> omega
    · omega
theorem rorder_any (a b c d : Nat) (w : World) : Calls Try.prog 22 #[.agg #[.int .u64 (a : Int), .int .u64 (b : Int)], .agg #[.int .u64 (c : Int), .int .u64 (d : Int)]] w fun e w' => e = .returned (.int .i64 (rOrd a b c d)) ∧ Below w.heap.size w w' := by
  unfold rOrd
  by_cases h1 : a < c
  · rw [if_pos h1]
    have i1 : (a : Int) < (c : Int) := by omega
    clear h1
    go_enter Try.func22, Try.ntmps22
    go_wp2
    go_ret
    exact ⟨rfl, ((Below.refl w.heap.size w).alloc (Nat.le_refl _) _).alloc (by rw [size_alloc]; omega) _⟩
  · rw [if_neg h1]
    have i1 : decide ((a : Int) < (c : Int)) = false := decide_eq_false (by omega)
    have i1' : ¬ (a : Int) < (c : Int) := by omega
    by_cases h2 : a = c
    · rw [if_pos h2]
      have i2 : ((a : Int) == (c : Int)) = true := by simp; omega
      subst h2
      by_cases h3 : b < d
      · rw [if_pos h3]
        have i3 : (b : Int) < (d : Int) := by omega
        go_enter Try.func22, Try.ntmps22
        go_wp2
        go_ret
        exact ⟨rfl, ((Below.refl w.heap.size w).alloc (Nat.le_refl _) _).alloc (by rw [size_alloc]; omega) _⟩
      · rw [if_neg h3]
        have i3 : decide ((b : Int) < (d : Int)) = false := decide_eq_false (by omega)
        have i3' : ¬ (b : Int) < (d : Int) := by omega
        by_cases h4 : b = d
        · subst h4
          rw [if_pos rfl]
          go_enter Try.func22, Try.ntmps22
          go_wp2
          go_ret
          exact ⟨rfl, ((Below.refl w.heap.size w).alloc (Nat.le_refl _) _).alloc (by rw [size_alloc]; omega) _⟩
        · rw [if_neg h4]
          have i4 : ¬ (b : Int) = (d : Int) := by omega
          go_enter Try.func22, Try.ntmps22
          go_wp2
          go_ret
          exact ⟨rfl, ((Below.refl w.heap.size w).alloc (Nat.le_refl _) _).alloc (by rw [size_alloc]; omega) _⟩
    · rw [if_neg h2]
      have i2 : ((a : Int) == (c : Int)) = false := by simp; omega
      have i2' : ¬ (a : Int) = (c : Int) := by omega
      go_enter Try.func22, Try.ntmps22
      go_wp2
      go_ret
      exact ⟨rfl, ((Below.refl w.heap.size w).alloc (Nat.le_refl _) _).alloc (by rw [size_alloc]; omega) _⟩
/-- The document's list, at p. -/
def RListAt (w : World) (p : Nat) (l : List Wt) (F : List Nat) : Prop :=
  ∃ lo n cap, w.heap[p]? = some (.cells #[.slice lo n cap] 29 (0, 0)) ∧ Own w 3 lo n cap (l.flatMap Wt.cells) ∧ p ∉ blk lo ∧ F = p :: blk lo
theorem RListAt.keep {w w' : World} {p : Nat} {l : List Wt} {F : List Nat} (h : RListAt w p l F) {S : Nat → Prop} (hc : Chg S w w') (hS : ∀ k ∈ F, ¬ S k) : RListAt w' p l F := by
  obtain ⟨lo, n, cap, h1, h2, h3, rfl⟩ := h
  exact ⟨lo, n, cap, hc.heap h1 (hS p (by simp)), h2.keep hc (fun a ha => hS _ (List.mem_cons_of_mem _ (mem_blk.2 ⟨a, ha, rfl⟩))), h3, rfl⟩
theorem RListAt.lt {w : World} {p : Nat} {l : List Wt} {F : List Nat} (h : RListAt w p l F) : ∀ k ∈ F, k < w.heap.size := by
  obtain ⟨lo, n, cap, h1, h2, h3, rfl⟩ := h
  intro k hk
  rcases List.mem_cons.1 hk with rfl | hk
  · exact heap_lt h1
  · obtain ⟨a, ha, rfl⟩ := mem_blk.1 hk
    exact (h2.at_ a ha).2.1
def RWrote (w w' : World) (p : Nat) (l : List Wt) (F : List Nat) : Prop := ∃ F', RListAt w' p l F' ∧ Chg (· ∈ F) w w' ∧ ∀ k ∈ F', k ∈ F ∨ w.heap.size ≤ k
theorem RWrote.same {w w' : World} {p : Nat} {l : List Wt} {F : List Nat} (h : RListAt w p l F) (hb : Below w.heap.size w w') : RWrote w w' p l F :=
  ⟨F, h.keep (Chg.of_below hb (fun _ => False)) (fun _ _ h => h), Chg.of_below hb _, fun _ h => .inl h⟩
/-- A new list is laid down. -/
theorem rend {w wa w4 : World} {p n' c' : Nat} {yo : Option Addr} {l' : List Wt} {F : List Nat} {v : Value} (hpF : p ∈ F) (hC : Chg (· ∈ F) w wa) (hp : w4.heap[p]? = some (.cells #[v] 29 (0, 0))) (hb : Below wa.heap.size wa w4)
    (ho : Own w4 3 yo n' c' (l'.flatMap Wt.cells)) (hyo : ∀ a, yo = some a → w.heap.size ≤ a.block) (hpl : p < w.heap.size) : RWrote w (w4.setCell ⟨p, 0, none⟩ (.slice yo n' c')) p l' F := by
  have hpy : ∀ a, yo = some a → a.block ≠ p := fun a ha e => by have := hyo a ha; omega
  refine ⟨p :: blk yo, ⟨yo, n', c', heap_set hp 0 _, ho.keep (Chg.one w4 p 0 _) (fun a ha e => hpy a ha e), fun hk => ?_, rfl⟩, (hC.trans (Chg.of_below hb (fun _ => False)) (fun _ _ h => h.elim)).set hpF 0 _, fun k hk => ?_⟩
  · obtain ⟨a, ha, e⟩ := mem_blk.1 hk
    exact hpy a ha e
  · rcases List.mem_cons.1 hk with rfl | hk
    · exact .inl hpF
    · obtain ⟨a, ha, rfl⟩ := mem_blk.1 hk
      exact .inr (hyo a ha)
theorem wt_at {w : World} {lo : Option Addr} {l : List Wt} {i : Nat} {e : Wt} (h : Row w lo (l.flatMap Wt.cells)) (he : l[i]? = some e) :
    ∃ b off, lo = some ⟨b, off, none⟩ ∧ w.cell? ⟨b, off + i * 3, none⟩ = some (.int .u64 (e.at_ : Int)) ∧ w.cell? ⟨b, off + i * 3 + 1, none⟩ = some (.int .u64 (e.led : Int)) ∧ w.cell? ⟨b, off + i * 3 + 2, none⟩ = some (.int .u64 (e.ent : Int)) := by
  obtain ⟨b, off, rfl, h1⟩ := row_at' h he
  have q0 := h1 0 _ rfl
  have q1 := h1 1 _ rfl
  have q2 := h1 2 _ rfl
  simp only [Nat.add_zero, ← Nat.add_assoc] at q0 q1 q2
  exact ⟨b, off, rfl, q0, q1, q2⟩
theorem bdrew {w w' : World} (h : Below w.heap.size w w') (n : Nat) : Below w.heap.size w (w'.drewN n) :=
  h.trans (((Chg.refl (fun _ => False) w').drewN n).below h.size (fun _ h => h.elim))
end Go.Proofs.Ytmkjcjdomechfaa
