/-
  LAYER 19: how places stand to one another: cmp.Compare, cmp.Or, Order, order.
-/
import Derived.Test.YtmkjcjdomechfaaDelW
import Derived.Test.YtmkjcjdomechfaaBsW
import Derived.Test.YtmkjcjdomechfaaInsW
namespace Go.Proofs.Ytmkjcjdomechfaa
open Go Go.RowKit

theorem alloc_cell {w : World} {a : Addr} {v : Value} {o : Obj} (h : w.cell? a = some v) : (w.alloc o).cell? a = some v := by
  rw [World.cell?_alloc_lt _ _ _ (World.block_lt_of_cell? w a h)]; exact h
def cmpU (a b : Nat) : Int := if a < b then -1 else if b < a then 1 else 0
theorem isnan_any (x : Int) (w : World) : Calls Try.prog 32 #[.int .u64 x] w fun e w' => e = .returned (.bool false) ∧ w = w' := by
  go_enter Try.func32, Try.ntmps32
  go_wp2
  go_ret
  exact ⟨by simp, rfl⟩
theorem compare_any (a b : Nat) (w : World) : Calls Try.prog 27 #[.int .u64 (a : Int), .int .u64 (b : Int)] w fun e w' => e = .returned (.int .i64 (cmpU a b)) ∧ w = w' := by
  unfold cmpU
  by_cases h1 : a < b
  · have h1i : (a : Int) < (b : Int) := by omega
    rw [if_pos h1]
    go_enter Try.func27, Try.ntmps27
    go_wp2_with (go_at_call 32; (with_reducible refine (isnan_any _ _).mono ?_); rintro e w1 ⟨rfl, rfl⟩)
    go_ret
    exact ⟨rfl, rfl⟩
  · have h1i : ¬ (a : Int) < (b : Int) := by omega
    rw [if_neg h1]
    by_cases h2 : b < a
    · have h2i : (b : Int) < (a : Int) := by omega
      rw [if_pos h2]
      go_enter Try.func27, Try.ntmps27
      go_wp2_with (go_at_call 32; (with_reducible refine (isnan_any _ _).mono ?_); rintro e w1 ⟨rfl, rfl⟩)
      go_ret
      exact ⟨rfl, rfl⟩
    · have h2i : ¬ (b : Int) < (a : Int) := by omega
      rw [if_neg h2]
      go_enter Try.func27, Try.ntmps27
      go_wp2_with (go_at_call 32; (with_reducible refine (isnan_any _ _).mono ?_); rintro e w1 ⟨rfl, rfl⟩)
      go_ret
      exact ⟨rfl, rfl⟩
def orI (a b : Int) : Int := if a = 0 then b else a
theorem or_any (so : Option Addr) (c : Nat) (a b : Int) (w : World) (h : Row w so [.int .i64 a, .int .i64 b]) : Calls Try.prog 26 #[.slice so 2 c] w fun e w' => e = .returned (.int .i64 (orI a b)) ∧ w = w' := by
  obtain ⟨bb, off, rfl, hc⟩ := h (by simp)
  have c0 := hc 0 _ rfl
  have c1 := hc 1 _ rfl
  rw [Nat.add_zero] at c0
  clear hc h
  unfold orI
  by_cases ha : a = 0
  · subst ha
    rw [if_pos rfl]
    by_cases hb : b = 0
    · subst hb
      go_enter Try.func26, Try.ntmps26
      go_wp2
      go_loopg [8] 2 (fun g v wr => wr = w ∧ ∃ k : Nat, g + k = 2 ∧ v = .int .i64 k)
      case atStart => exact ⟨rfl, 0, rfl, rfl⟩
      case round =>
        obtain ⟨rfl, k, hg, rfl⟩ := hrel
        have hk : k = 0 ∨ k = 1 ∨ k = 2 := by omega
        rcases hk with rfl | rfl | rfl
        · go_wp2
          go_roundg 1
          case measure => omega
          case rel => exact ⟨rfl, 1, rfl, by go_num⟩
        · go_wp2
          go_roundg 0
          case measure => omega
          case rel => exact ⟨rfl, 2, rfl, by go_num⟩
        · go_wp2
          go_ret
          exact ⟨rfl, rfl⟩
    · have hbi : (b == 0) = false := by simp [hb]
      go_enter Try.func26, Try.ntmps26
      go_wp2
      go_loopg [8] 2 (fun g v wr => wr = w ∧ ∃ k : Nat, g + k = 2 ∧ v = .int .i64 k ∧ k ≤ 1)
      case atStart => exact ⟨rfl, 0, rfl, rfl, by omega⟩
      case round =>
        obtain ⟨rfl, k, hg, rfl, hk1⟩ := hrel
        have hk : k = 0 ∨ k = 1 := by omega
        rcases hk with rfl | rfl
        · go_wp2
          go_roundg 1
          case measure => omega
          case rel => exact ⟨rfl, 1, rfl, by go_num, by omega⟩
        · go_wp2
          go_ret
          exact ⟨rfl, rfl⟩
  · have hai : (a == 0) = false := by simp [ha]
    rw [if_neg ha]
    go_enter Try.func26, Try.ntmps26
    go_wp2
    go_loopg [8] 2 (fun g v wr => wr = w ∧ v = .int .i64 0)
    case atStart => exact ⟨rfl, rfl⟩
    case round =>
      obtain ⟨rfl, rfl⟩ := hrel
      go_wp2
      go_ret
      exact ⟨rfl, rfl⟩
def posOrd (a b c d : Nat) : Int := orI (cmpU a c) (cmpU b d)
set_option maxHeartbeats 1000000 in
theorem order_pos (a b c d : Nat) (w : World) : Calls Try.prog 18 #[.agg #[.int .u64 (a : Int), .int .u64 (b : Int)], .agg #[.int .u64 (c : Int), .int .u64 (d : Int)]] w fun e w' => e = .returned (.int .i64 (posOrd a b c d)) ∧ Below w.heap.size w w' := by
  have hA := heap_new (o := .cells #[.int .u64 (c : Int), .int .u64 (d : Int)] 32) (heap_top w (.cells #[.int .u64 (a : Int), .int .u64 (b : Int)] 32))
  have hB := heap_top (w.alloc (.cells #[.int .u64 (a : Int), .int .u64 (b : Int)] 32)) (.cells #[.int .u64 (c : Int), .int .u64 (d : Int)] 32)
  rw [size_alloc] at hB
  have HB := Lib.hid ((((Below.refl w.heap.size w).alloc (Nat.le_refl _) (.cells #[.int .u64 (a : Int), .int .u64 (b : Int)] 32)).alloc (by rw [size_alloc]; omega) (.cells #[.int .u64 (c : Int), .int .u64 (d : Int)] 32)))
  go_enter Try.func18, Try.ntmps18
  go_wp2
  generalize (w.alloc (.cells #[.int .u64 (a : Int), .int .u64 (b : Int)] 32)).alloc (.cells #[.int .u64 (c : Int), .int .u64 (d : Int)] 32) = W at *
  obtain ⟨a0, a1, _⟩ := cells2 hA
  obtain ⟨b0, b1, _⟩ := cells2 hB
  clear hA hB
  have hS0 : W.drew.cell? ⟨w.heap.size, 0, none⟩ = some (.int .u64 (a : Int)) ∧ W.drew.cell? ⟨w.heap.size, 1, none⟩ = some (.int .u64 (b : Int)) ∧ W.drew.cell? ⟨w.heap.size + 1, 0, none⟩ = some (.int .u64 (c : Int)) ∧ W.drew.cell? ⟨w.heap.size + 1, 1, none⟩ = some (.int .u64 (d : Int)) := ⟨a0, a1, b0, b1⟩
  go_region_held3 (fun wx => wx.cell? ⟨w.heap.size, 0, none⟩ = some (.int .u64 (a : Int)) ∧ wx.cell? ⟨w.heap.size, 1, none⟩ = some (.int .u64 (b : Int)) ∧ wx.cell? ⟨w.heap.size + 1, 0, none⟩ = some (.int .u64 (c : Int)) ∧ wx.cell? ⟨w.heap.size + 1, 1, none⟩ = some (.int .u64 (d : Int)))
    (first | exact hS0 | exact ⟨alloc_cell hS0.1, alloc_cell hS0.2.1, alloc_cell hS0.2.2.1, alloc_cell hS0.2.2.2⟩)
    (first
      | (go_at_call 27; (with_reducible refine (compare_any a c _).mono ?_); rintro e w1 ⟨rfl, rfl⟩)
      | (go_at_call 27; (with_reducible refine (compare_any b d _).mono ?_); rintro e w1 ⟨rfl, rfl⟩)
      | (go_at_call 26; (with_reducible refine (or_any _ _ (cmpU a c) (cmpU b d) _ (Row.drew (Row.alloc W #[.int .i64 (cmpU a c), .int .i64 (cmpU b d)] _ _))).mono ?_); rintro e w1 ⟨rfl, rfl⟩))
  go_wp2
  go_ret
  exact ⟨rfl, HB.out.drew.alloc HB.out.size _⟩
def wtOrd (x y : Wt) : Int := orI (cmpU x.at_ y.at_) (posOrd x.led x.ent y.led y.ent)
set_option maxHeartbeats 1000000 in
theorem order_wt (x y : Wt) (w : World) : Calls Try.prog 20 #[x.val, y.val] w fun e w' => e = .returned (.int .i64 (wtOrd x y)) ∧ Below w.heap.size w w' := by
  obtain ⟨x0, x1, x2⟩ := x
  obtain ⟨y0, y1, y2⟩ := y
  change Calls _ _ #[.agg #[.int .u64 (x0 : Int), .int .u64 (x1 : Int), .int .u64 (x2 : Int)], .agg #[.int .u64 (y0 : Int), .int .u64 (y1 : Int), .int .u64 (y2 : Int)]] w _
  have hA := heap_new (o := .cells #[.int .u64 (y0 : Int), .int .u64 (y1 : Int), .int .u64 (y2 : Int)] 45) (heap_top w (.cells #[.int .u64 (x0 : Int), .int .u64 (x1 : Int), .int .u64 (x2 : Int)] 45))
  have hB := heap_top (w.alloc (.cells #[.int .u64 (x0 : Int), .int .u64 (x1 : Int), .int .u64 (x2 : Int)] 45)) (.cells #[.int .u64 (y0 : Int), .int .u64 (y1 : Int), .int .u64 (y2 : Int)] 45)
  rw [size_alloc] at hB
  have HB := Lib.hid ((((Below.refl w.heap.size w).alloc (Nat.le_refl _) (.cells #[.int .u64 (x0 : Int), .int .u64 (x1 : Int), .int .u64 (x2 : Int)] 45)).alloc (by rw [size_alloc]; omega) (.cells #[.int .u64 (y0 : Int), .int .u64 (y1 : Int), .int .u64 (y2 : Int)] 45)))
  go_enter Try.func20, Try.ntmps20
  go_wp2
  generalize (w.alloc (.cells #[.int .u64 (x0 : Int), .int .u64 (x1 : Int), .int .u64 (x2 : Int)] 45)).alloc (.cells #[.int .u64 (y0 : Int), .int .u64 (y1 : Int), .int .u64 (y2 : Int)] 45) = W at *
  obtain ⟨a0, a1, a2, _⟩ := cells3 hA
  obtain ⟨b0, b1, b2, _⟩ := cells3 hB
  clear hA hB
  have hS0 : W.drew.cell? ⟨w.heap.size, 0, none⟩ = some (.int .u64 (x0 : Int)) ∧ W.drew.cell? ⟨w.heap.size, 1, none⟩ = some (.int .u64 (x1 : Int)) ∧ W.drew.cell? ⟨w.heap.size, 2, none⟩ = some (.int .u64 (x2 : Int)) ∧ W.drew.cell? ⟨w.heap.size + 1, 0, none⟩ = some (.int .u64 (y0 : Int)) ∧ W.drew.cell? ⟨w.heap.size + 1, 1, none⟩ = some (.int .u64 (y1 : Int)) ∧ W.drew.cell? ⟨w.heap.size + 1, 2, none⟩ = some (.int .u64 (y2 : Int)) := ⟨a0, a1, a2, b0, b1, b2⟩
  go_region_held3 (fun wx => wx.cell? ⟨w.heap.size, 0, none⟩ = some (.int .u64 (x0 : Int)) ∧ wx.cell? ⟨w.heap.size, 1, none⟩ = some (.int .u64 (x1 : Int)) ∧ wx.cell? ⟨w.heap.size, 2, none⟩ = some (.int .u64 (x2 : Int)) ∧ wx.cell? ⟨w.heap.size + 1, 0, none⟩ = some (.int .u64 (y0 : Int)) ∧ wx.cell? ⟨w.heap.size + 1, 1, none⟩ = some (.int .u64 (y1 : Int)) ∧ wx.cell? ⟨w.heap.size + 1, 2, none⟩ = some (.int .u64 (y2 : Int)))
    (first | exact hS0 | exact hS1 | exact ⟨alloc_cell hS1.1, alloc_cell hS1.2.1, alloc_cell hS1.2.2.1, alloc_cell hS1.2.2.2.1, alloc_cell hS1.2.2.2.2.1, alloc_cell hS1.2.2.2.2.2⟩)
    (first
      | (go_at_call 27; (with_reducible refine (compare_any x0 y0 _).mono ?_); rintro e w1 ⟨rfl, rfl⟩)
      | (go_at_call 18; (with_reducible refine (order_pos x1 x2 y1 y2 _).mono ?_); rintro e w1 ⟨rfl, hb1⟩; have hch := Chg.of_below hb1 (fun _ => False); have hS1 : w1.cell? ⟨w.heap.size, 0, none⟩ = some (.int .u64 (x0 : Int)) ∧ w1.cell? ⟨w.heap.size, 1, none⟩ = some (.int .u64 (x1 : Int)) ∧ w1.cell? ⟨w.heap.size, 2, none⟩ = some (.int .u64 (x2 : Int)) ∧ w1.cell? ⟨w.heap.size + 1, 0, none⟩ = some (.int .u64 (y0 : Int)) ∧ w1.cell? ⟨w.heap.size + 1, 1, none⟩ = some (.int .u64 (y1 : Int)) ∧ w1.cell? ⟨w.heap.size + 1, 2, none⟩ = some (.int .u64 (y2 : Int)) := ⟨hch.cell hS0.1 (fun h => h), hch.cell hS0.2.1 (fun h => h), hch.cell hS0.2.2.1 (fun h => h), hch.cell hS0.2.2.2.1 (fun h => h), hch.cell hS0.2.2.2.2.1 (fun h => h), hch.cell hS0.2.2.2.2.2 (fun h => h)⟩; have H1 := Lib.hid (HB.out.drew.trans (hb1.mono HB.out.size)); clear hch hb1)
      | (go_at_call 26; (with_reducible refine (or_any _ _ (cmpU x0 y0) (posOrd x1 x2 y1 y2) _ (Row.alloc w1 #[.int .i64 (cmpU x0 y0), .int .i64 (posOrd x1 x2 y1 y2)] _ _)).mono ?_); rintro e w2 ⟨rfl, rfl⟩))
  go_wp2
  go_ret
  exact ⟨rfl, H1.out.alloc H1.out.size _⟩
end Go.Proofs.Ytmkjcjdomechfaa
