/-
  LAYER 19: few.
-/
import Derived.Test.YtmkjcjdomechfaaLaterE
import Derived.Laws.ResultCell
namespace Go.Proofs.Ytmkjcjdomechfaa
open Go Go.RowKit

theorem acells5 {w : World} {T : Nat} {a b c d e : Value} {t : TypeId} (h : w.heap[T]? = some (.cells #[a, b, c, d, e] t (0, 0))) : w.cell? ⟨T, 0, none⟩ = some a ∧ w.cell? ⟨T, 1, none⟩ = some b ∧ w.cell? ⟨T, 2, none⟩ = some c ∧ w.cell? ⟨T, 3, none⟩ = some d ∧ w.cell? ⟨T, 4, none⟩ = some e := by
  have h0 := heap_cell h 0
  have h1 := heap_cell h 1
  have h2 := heap_cell h 2
  have h3 := heap_cell h 3
  have h4 := heap_cell h 4
  simp at h0 h1 h2 h3 h4
  exact ⟨h0, h1, h2, h3, h4⟩
def fewN (n m : Nat) (raw : Bool) : Nat := if raw then n else n % m
theorem few_any (k : Int) (a b c : Nat) (raw : Bool) (w : World) :
    Calls Try.prog 9 #[.agg #[.int .u8 k, .int .u64 (a : Int), .int .u64 (b : Int), .int .u64 (c : Int), .bool raw]] w fun e w' => e = .returned (.agg #[.int .u8 k, .int .u64 (fewN a 12 raw : Int), .int .u64 (fewN b 3 raw : Int), .int .u64 (fewN c 4 raw : Int), .bool raw]) ∧ Below w.heap.size w w' := by
  have h1 := heap_new (o := .cells #[.int .u8 0, .int .u64 0, .int .u64 0, .int .u64 0, .bool false] 34) (heap_top w (.cells #[.int .u8 k, .int .u64 (a : Int), .int .u64 (b : Int), .int .u64 (c : Int), .bool raw] 34))
  have h2 := heap_top (w.alloc (.cells #[.int .u8 k, .int .u64 (a : Int), .int .u64 (b : Int), .int .u64 (c : Int), .bool raw] 34)) (.cells #[.int .u8 0, .int .u64 0, .int .u64 0, .int .u64 0, .bool false] 34)
  rw [size_alloc] at h2
  obtain ⟨a0, a1, a2, a3, a4⟩ := acells5 h1
  obtain ⟨b0, b1, b2, b3, b4⟩ := acells5 h2
  clear h1 h2
  cases raw with
  | true =>
    have h3 := heap_top (w.alloc (.cells #[.int .u8 k, .int .u64 (a : Int), .int .u64 (b : Int), .int .u64 (c : Int), .bool true] 34)) (.cells #[.int .u8 k, .int .u64 (a : Int), .int .u64 (b : Int), .int .u64 (c : Int), .bool true] 34)
    rw [size_alloc] at h3
    have H3 := Lib.hid h3
    clear h3
    go_enter Try.func9, Try.ntmps9
    go_wp2
    obtain ⟨c0, c1, c2, c3, c4⟩ := acells5 H3.out
    refine bodyPost_ret (v := .agg #[.int .u8 k, .int .u64 (fewN a 12 true : Int), .int .u64 (fewN b 3 true : Int), .int .u64 (fewN c 4 true : Int), .bool true]) ?_ rfl ?_
    · simp [results, Try.results9, go_sem, c0, c1, c2, c3, c4]
      simp [fewN]
    · exact ⟨rfl, ((Below.refl w.heap.size w).alloc (Nat.le_refl _) _).alloc (by rw [size_alloc]; omega) _⟩
  | false =>
    have h3 := heap_top (w.alloc (.cells #[.int .u8 k, .int .u64 ((a : Int) % 12), .int .u64 ((b : Int) % 3), .int .u64 ((c : Int) % 4), .bool false] 34)) (.cells #[.int .u8 k, .int .u64 ((a : Int) % 12), .int .u64 ((b : Int) % 3), .int .u64 ((c : Int) % 4), .bool false] 34)
    rw [size_alloc] at h3
    have H3 := Lib.hid h3
    clear h3
    go_enter Try.func9, Try.ntmps9
    go_wp2
    obtain ⟨c0, c1, c2, c3, c4⟩ := acells5 H3.out
    refine bodyPost_ret (v := .agg #[.int .u8 k, .int .u64 (fewN a 12 false : Int), .int .u64 (fewN b 3 false : Int), .int .u64 (fewN c 4 false : Int), .bool false]) ?_ rfl ?_
    · simp [results, Try.results9, go_sem, c0, c1, c2, c3, c4]
      simp [fewN]
    · exact ⟨rfl, ((Below.refl w.heap.size w).alloc (Nat.le_refl _) _).alloc (by rw [size_alloc]; omega) _⟩
end Go.Proofs.Ytmkjcjdomechfaa
