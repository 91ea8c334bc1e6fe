/-
  LAYER 7: the document's book: Open.
-/
import Derived.Test.YtgcldmmhfleggaaLeaseS
namespace Go.Proofs.Ytgcldmmhfleggaa
open Go Go.RowKit

/-- A list made anew behind the world wa. -/
structure RMid (wa w2 : World) (l : List Sess) (n : Nat) (xo : Option Addr) (xc : Nat) : Prop where
  below : Below wa.heap.size wa w2
  own : Own w2 3 xo n xc (l.flatMap Sess.cells)
  new : ∀ a, xo = some a → wa.heap.size ≤ a.block
theorem mid_a {wa w2 : World} {A : Obj} {l : List Sess} {n xc : Nat} {xo : Option Addr} (hx : Own w2 3 xo (0 + n) xc ([] ++ l.flatMap Sess.cells)) (hch : Chg (fun k => ∃ a, some (⟨wa.heap.size, 0, none⟩ : Addr) = some a ∧ a.block = k) (wa.alloc A).drew w2)
    (hx2 : ∀ a', xo = some a' → some (⟨wa.heap.size, 0, none⟩ : Addr) = some a' ∨ (wa.alloc A).drew.heap.size ≤ a'.block) : RMid wa w2 l n xo xc :=
  ⟨chg_new (Below.refl _ _) hch.undrew, by rw [Nat.zero_add, List.nil_append] at hx; exact hx, new_blk (Below.refl _ wa) hx2⟩
theorem mid_b {wa w2 : World} {A : Obj} {cs : Array Value} {t : TypeId} {fz : Nat × Nat} {l : List Sess} {n xc : Nat} {xo : Option Addr} (hx : Own w2 3 xo (0 + n) xc ([] ++ l.flatMap Sess.cells)) (hch : Chg (fun k => ∃ a, some (⟨wa.heap.size, 0, none⟩ : Addr) = some a ∧ a.block = k) ((wa.alloc A).alloc (.cells cs t fz)).drew w2)
    (hx2 : ∀ a', xo = some a' → some (⟨wa.heap.size, 0, none⟩ : Addr) = some a' ∨ ((wa.alloc A).alloc (.cells cs t fz)).drew.heap.size ≤ a'.block) : RMid wa w2 l n xo xc ∧ Row w2 (some ⟨wa.heap.size + 1, 0, none⟩) cs.toList := by
  have hb1 := (Below.refl wa.heap.size wa).alloc (Nat.le_refl _) A
  have hb2 := hb1.alloc hb1.size (.cells cs t fz)
  have hr := Row.alloc (wa.alloc A) cs t fz
  rw [size_alloc] at hr
  refine ⟨⟨hb2.trans (hch.undrew.below hb2.size (fun k ⟨a, ha, e⟩ => ?_)), by rw [Nat.zero_add, List.nil_append] at hx; exact hx, fun a ha => ?_⟩, hch.undrew.row hr (fun a ha ⟨b, hb, e⟩ => ?_)⟩
  · cases ha; rw [← e]; exact Nat.le_refl _
  · rcases hx2 a ha with h | h
    · cases h; exact Nat.le_refl _
    · exact Nat.le_trans hb2.size h
  · cases ha; cases hb; simp at e
theorem mid_c {wa w2 : World} {A : Obj} {cs : Array Value} {t : TypeId} {fz : Nat × Nat} {l : List Sess} {n xc : Nat} {xo : Option Addr} (hx : Own w2 3 xo (0 + n) xc ([] ++ l.flatMap Sess.cells)) (hch : Chg (fun k => ∃ a, some (⟨wa.heap.size + 1, 0, none⟩ : Addr) = some a ∧ a.block = k) ((wa.alloc (.cells cs t fz)).alloc A).drew w2)
    (hx2 : ∀ a', xo = some a' → some (⟨wa.heap.size + 1, 0, none⟩ : Addr) = some a' ∨ ((wa.alloc (.cells cs t fz)).alloc A).drew.heap.size ≤ a'.block) : RMid wa w2 l n xo xc ∧ Row w2 (some ⟨wa.heap.size, 0, none⟩) cs.toList := by
  have hb1 := (Below.refl wa.heap.size wa).alloc (Nat.le_refl _) (.cells cs t fz)
  have hb2 := hb1.alloc hb1.size A
  have hr := (Row.alloc wa cs t fz).below ((Below.refl _ (wa.alloc (.cells cs t fz))).alloc (Nat.le_refl _) A)
  refine ⟨⟨hb2.trans (hch.undrew.below hb2.size (fun k ⟨a, ha, e⟩ => ?_)), by rw [Nat.zero_add, List.nil_append] at hx; exact hx, fun a ha => ?_⟩, hch.undrew.row hr (fun a ha ⟨b, hb, e⟩ => ?_)⟩
  · cases ha; rw [← e]; exact Nat.le_succ _
  · rcases hx2 a ha with h | h
    · cases h; exact Nat.le_succ _
    · exact Nat.le_trans hb2.size h
  · cases ha; cases hb; simp at e
theorem mid_next {wa w2 w3 : World} {l : List Sess} {s : Sess} {n yc : Nat} {xo yo : Option Addr} (hb : Below wa.heap.size wa w2) (hn : ∀ a, xo = some a → wa.heap.size ≤ a.block) (hy : Own w3 3 yo (n + 1) yc (l.flatMap Sess.cells ++ s.cells)) (hch : Chg (fun k => ∃ a, xo = some a ∧ a.block = k) w2 w3)
    (hx2 : ∀ a', yo = some a' → xo = some a' ∨ w2.heap.size ≤ a'.block) : RMid wa w3 (l ++ [s]) (n + 1) yo yc := by
  refine ⟨hb.trans (hch.below hb.size (fun k ⟨a, ha, e⟩ => e ▸ hn a ha)), by rw [List.flatMap_append, List.flatMap_cons, List.flatMap_nil, List.append_nil]; exact hy, fun a ha => ?_⟩
  rcases hx2 a ha with h | h
  · exact hn a h
  · exact Nat.le_trans hb.size h
theorem ropen_time (p now life : Nat) (w : World) (hlf : life = 0 ∨ 1099511627776 < life) :
    Calls Try.prog 18 #[.pointer (some ⟨p, 0, none⟩), .int .u64 (now : Int), .int .u64 (life : Int)] w fun e w' => e = .returned (.tuple #[.int .u64 0, .int .i64 63]) ∧ w = w' := by
  rcases hlf with rfl | hlf
  · go_enter Try.func18, Try.ntmps18
    go_wp2
    go_ret2
    exact ⟨rfl, rfl⟩
  · have h0 : ((life : Int) == 0) = false := by simp; omega
    have h1 : 1099511627776 < (life : Int) := by omega
    clear hlf
    go_enter Try.func18, Try.ntmps18
    go_wp2
    go_ret2
    exact ⟨rfl, rfl⟩
theorem ropen_many (p last now life : Nat) (l : List Sess) (F : List Nat) (w : World) (h : RBookAt w p last l F) (hlf : 1 ≤ life ∧ life ≤ 1099511627776) (hm : l.length = 16 ∨ l.length < 16 ∧ last = 18446744073709551615) :
    Calls Try.prog 18 #[.pointer (some ⟨p, 0, none⟩), .int .u64 (now : Int), .int .u64 (life : Int)] w fun e w' => e = .returned (.tuple #[.int .u64 0, .int .i64 14]) ∧ w = w' := by
  obtain ⟨lo, n, cap, h1, h2, h3, hF⟩ := h
  have hn := fl_own_len el_e h2
  obtain ⟨z0, z1, z2⟩ := cells2 h1
  have h0 : ((life : Int) == 0) = false := by simp; omega
  have h9 : ¬ 1099511627776 < (life : Int) := by omega
  clear h1 h2 h3 hF hlf
  rcases hm with hm | ⟨hm, rfl⟩
  · obtain rfl : n = 16 := by omega
    clear hn hm
    go_enter Try.func18, Try.ntmps18
    go_wp2
    go_ret2
    exact ⟨rfl, rfl⟩
  · have hn16 : ((n : Int) == 16) = false := by simp; omega
    clear hn hm
    go_enter Try.func18, Try.ntmps18
    go_wp2
    go_ret2
    exact ⟨rfl, rfl⟩
theorem open_time (p now life : Nat) (w : World) (hlf : life = 0 ∨ 1099511627776 < life) :
    Calls Try.prog 10 #[.pointer (some ⟨p, 0, none⟩), .int .u64 (now : Int), .int .u64 (life : Int)] w fun e w' => e = .returned (.tuple #[.int .u64 0, .int .i64 63]) ∧ w = w' := by
  rcases hlf with rfl | hlf
  · go_enter Try.func10, Try.ntmps10
    go_wp2
    go_ret2
    exact ⟨rfl, rfl⟩
  · have h0 : ¬ ((life : Int) < 1) := by omega
    have h1 : 1099511627776 < (life : Int) := by omega
    clear hlf
    go_enter Try.func10, Try.ntmps10
    go_wp2
    go_ret2
    exact ⟨rfl, rfl⟩
theorem open_last (p : Nat) (l : List Sess) (F : List Nat) (now life : Nat) (w : World) (h : BookAt w p 18446744073709551615 l F) (hl : l.length < 16) (hlf : 1 ≤ life ∧ life ≤ 1099511627776) :
    Calls Try.prog 10 #[.pointer (some ⟨p, 0, none⟩), .int .u64 (now : Int), .int .u64 (life : Int)] w fun e w' => e = .returned (.tuple #[.int .u64 0, .int .i64 14]) ∧ w = w' := by
  obtain ⟨lo, n, cap, h1, h2, h3, hF⟩ := h
  have hn := fl_own_len el_e h2
  obtain ⟨z0, z1, z2⟩ := cells2 h1
  have hn16 : ¬ (16 : Int) ≤ (n : Int) := by omega
  have hl1 : ¬ ((life : Int) < 1) := by omega
  have hl2 : ¬ (1099511627776 < (life : Int)) := by omega
  clear h1 h2 h3 hF hl hn hlf
  go_enter Try.func10, Try.ntmps10
  go_wp2
  go_ret2
  exact ⟨rfl, rfl⟩
end Go.Proofs.Ytgcldmmhfleggaa
