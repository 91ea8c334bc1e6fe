/-
  LAYER 8: replay: a record's command is done.
-/
import Derived.Test.YtackmgmaippajaaGreatMtZ
namespace Go.Proofs.YtackmgmaippajaaGreat
open Go Go.RowKit

theorem RdrAt.weak {w : World} {p : Nat} {D D' : Option Nat} {bs : List UInt8} (h : RdrAt w p D bs) (hD : bs ≠ [] → D' = D) : RdrAt w p D' bs := by
  obtain ⟨ao, cap, h1, h2, h3, h4, h5⟩ := h
  exact ⟨ao, cap, h1, h2, h3, h4, fun hz a ha => by rw [hD hz]; exact h5 hz a ha⟩
theorem RplNow.keep {N : Nat} {w w' : World} {sp : Nat} {cs : Array Value} {t : TypeId} {s' : St} {F1 F2 : List Nat} (h : RplNow N w sp cs t s' F1 F2) {S : Nat → Prop} (hc : Chg S w w') (h0 : ¬ S sp) (h1 : ∀ k ∈ F1, ¬ S k) (h2 : ∀ k ∈ F2, ¬ S k) (hN : ∀ k, N ≤ k → ¬ S k) : RplNow N w' sp cs t s' F1 F2 := by
  obtain ⟨kp', bp', F1', F2', hs, g1, g2⟩ := h
  exact ⟨kp', bp', F1', F2', hs.keep hc h0 (fun k hk => (g1 k hk).elim (h1 k) (hN k)) (fun k hk => (g2 k hk).elim (h2 k) (hN k)), g1, g2⟩
theorem RplNow.down {N M : Nat} {w : World} {sp : Nat} {cs : Array Value} {t : TypeId} {s' : St} {F1 F2 : List Nat} (h : RplNow N w sp cs t s' F1 F2) (hN : M ≤ N) : RplNow M w sp cs t s' F1 F2 := by
  obtain ⟨kp', bp', F1', F2', hs, g1, g2⟩ := h
  exact ⟨kp', bp', F1', F2', hs, fun k hk => (g1 k hk).imp id (Nat.le_trans hN), fun k hk => (g2 k hk).imp id (Nat.le_trans hN)⟩
theorem rplE_nil (s : St) : rplE s [] = none := rplE_none1 rfl
section
variable {s : St} {sp kp bp : Nat} {cs : Array Value} {t : TypeId} {F1 F2 : List Nat} {ao : Option Addr} {bs : List UInt8} {w : World}
/-- What is captured: a box with the state's pointer. -/
abbrev rplW (w : World) (sp : Nat) : World := w.alloc (.cells #[.pointer (some ⟨sp, 0, none⟩)] 134)
theorem rpl_at (h : StAt w sp cs t s kp bp F1 F2) (hs : s.Wk) (hb : Bts w ao bs) (hn : bs.length ≤ 5000) (hA : bs ≠ [] → ∀ a, ao = some a → a.block ≠ sp ∧ a.block ∉ F1 ∧ a.block ∉ F2) (w1 : World) (hw : Below (rplW w sp).heap.size (rplW w sp) w1) (hr : RdrAt w1 ((rplW w sp).heap.size + 1) (ao.map (·.block)) bs) :
    Calls Tryz.prog 69 (#[.pointer (some ⟨(rplW w sp).heap.size + 1, 0, none⟩)] ++ #[.pointer (some ⟨w.heap.size, 0, none⟩)]) w1 (RplPost s bs ((rplW w sp).heap.size + 1) (if bs = [] then none else ao.map (·.block)) sp cs t F1 F2 w1) := by
  have hsz : (rplW w sp).heap.size = w.heap.size + 1 := size_alloc _ _
  have hA0 : Below w.heap.size w (rplW w sp) := (Below.refl _ _).alloc (Nat.le_refl _) _
  have hA1 : Below w.heap.size w w1 := hA0.trans (hw.mono hA0.size)
  have hC := Chg.of_below hA1 (fun _ => False)
  have hbox : w1.heap[w.heap.size]? = some (.cells #[.pointer (some ⟨sp, 0, none⟩)] 134 (0, 0)) := (Chg.of_below hw (fun _ => False)).heap (heap_top w _) (fun h => h)
  have hpl : (rplW w sp).heap.size + 1 < w1.heap.size := by obtain ⟨_, _, h1, _⟩ := hr; exact heap_lt h1
  have hs1 := h.lt
  have l1 := h.tree.lt
  have l2 := h.book.lt
  refine rpl_closure s bs _ _ sp kp bp w.heap.size cs t F1 F2 w1 (h.keep hC (fun h => h) (fun _ _ h => h) (fun _ _ h => h)) hs (hr.weak (fun hz => if_neg hz)) hn ?_ (heap_lt hbox) ⟨by omega, fun hk => by have := l1 _ hk; omega, fun hk => by have := l2 _ hk; omega, by omega, by omega, fun hk => by have := l1 _ hk; omega, fun hk => by have := l2 _ hk; omega⟩ (fun k hk => ?_)
  · rw [heap_cell hbox]; rfl
  · by_cases hz : bs = []
    · rw [if_pos hz] at hk; cases hk
    · rw [if_neg hz] at hk
      cases hao : ao with
      | none => rw [hao] at hk; cases hk
      | some a =>
        rw [hao] at hk
        cases hk
        have := hA hz a hao
        have := bts_lt hb hz a hao
        exact ⟨by have h1 := hA1.size; show a.block < _; omega, hA hz a hao⟩
set_option maxRecDepth 1000000 in
theorem rpl_fn (args : Array Value) (w : World) : (callFunc 69 args).run Tryz.prog w = .ok (.enter 69 args) w := rfl
theorem rpl_bad (h : StAt w sp cs t s kp bp F1 F2) (hs : s.Wk) (hb : Bts w ao bs) (hn : bs.length ≤ 5000) (hA : bs ≠ [] → ∀ a, ao = some a → a.block ≠ sp ∧ a.block ∉ F1 ∧ a.block ∉ F2) (he : rplE s bs = none) :
    ReadBy 69 #[.pointer (some ⟨w.heap.size, 0, none⟩)] (rplW w sp) (ao.map (·.block)) bs (fun k => k = sp ∨ k ∈ F1 ∨ k ∈ F2) (fun _ => True) fun e _ => ∃ code : Int, code ≠ 0 ∧ e = .panicked (thrown code) := by
  have hA0 : w.heap.size ≤ (rplW w sp).heap.size := by rw [show (rplW w sp).heap.size = w.heap.size + 1 from size_alloc _ _]; omega
  refine ⟨rpl_fn, fun k hk => Nat.lt_of_lt_of_le ?_ hA0, fun w1 hw hr => (rpl_at h hs hb hn hA w1 hw hr).mono ?_, fun _ _ _ _ _ => trivial⟩
  · rcases hk with rfl | hk | hk
    · exact h.lt
    · exact h.tree.lt k hk
    · exact h.book.lt k hk
  · rintro e w2 ⟨hc, ⟨_, hx⟩ | ⟨s', r, hx, _⟩⟩
    · exact ⟨hx, hc, trivial⟩
    · rw [he] at hx; cases hx
theorem rpl_ok {s' : St} {r : List UInt8} (h : StAt w sp cs t s kp bp F1 F2) (hs : s.Wk) (hb : Bts w ao bs) (hn : bs.length ≤ 5000) (hA : bs ≠ [] → ∀ a, ao = some a → a.block ≠ sp ∧ a.block ∉ F1 ∧ a.block ∉ F2) (he : rplE s bs = some (s', r)) :
    ReadBy 69 #[.pointer (some ⟨w.heap.size, 0, none⟩)] (rplW w sp) (ao.map (·.block)) bs (fun k => k = sp ∨ k ∈ F1 ∨ k ∈ F2) (fun w2 => RplNow ((rplW w sp).heap.size + 1) w2 sp cs t s' F1 F2) fun e w2 => e = .returned (.tuple #[]) ∧ RdrAt w2 ((rplW w sp).heap.size + 1) (ao.map (·.block)) r := by
  have hsz : (rplW w sp).heap.size = w.heap.size + 1 := size_alloc _ _
  have hz : bs ≠ [] := fun hz => by rw [hz, rplE_nil] at he; cases he
  have hs1 := h.lt
  have l1 := h.tree.lt
  have l2 := h.book.lt
  refine ⟨rpl_fn, fun k hk => ?_, fun w1 hw hr => ?_, fun w2 w3 hc _ hg => hg.keep hc (by show sp ≠ _; omega) (fun k hk => by have := l1 k hk; show k ≠ _; omega) (fun k hk => by have := l2 k hk; show k ≠ _; omega) (fun k hk => by show k ≠ _; omega)⟩
  · rcases hk with rfl | hk | hk
    · omega
    · have := l1 k hk; omega
    · have := l2 k hk; omega
  · have hpl : (rplW w sp).heap.size + 1 < w1.heap.size := by obtain ⟨_, _, h1, _⟩ := hr; exact heap_lt h1
    refine (rpl_at h hs hb hn hA w1 hw hr).mono ?_
    rintro e w2 ⟨hc, ⟨hx, _⟩ | ⟨s2, r2, hx, rfl, hr2, hg⟩⟩
    · rw [he] at hx; cases hx
    · rw [he] at hx
      cases hx
      rw [if_neg hz] at hr2
      exact ⟨⟨rfl, hr2⟩, hc, hg.down (by omega)⟩
end
set_option maxHeartbeats 1000000 in
theorem replay_any (s : St) (sp kp bp : Nat) (cs : Array Value) (t : TypeId) (F1 F2 : List Nat) (ao : Option Addr) (n c : Nat) (bs : List UInt8) (w : World) (h : StAt w sp cs t s kp bp F1 F2) (hs : s.Wk) (hb : Bts w ao bs) (hl : bs.length = n) (hnc : n ≤ c) (hm : c ≤ maxLen) (hn : n ≤ 5000)
    (hA : bs ≠ [] → ∀ a, ao = some a → a.block ≠ sp ∧ a.block ∉ F1 ∧ a.block ∉ F2) :
    Calls Tryz.prog 44 #[.pointer (some ⟨sp, 0, none⟩), .slice ao n c] w fun e w' => Chg (fun k => k = sp ∨ k ∈ F1 ∨ k ∈ F2) w w' ∧
      ((rplS s bs = none ∧ ∃ code : Int, code ≠ 0 ∧ e = .returned (.int .i64 code)) ∨ ∃ s', rplS s bs = some s' ∧ e = .returned (.int .i64 0) ∧ RplNow w.heap.size w' sp cs t s' F1 F2) := by
  have hn' : bs.length ≤ 5000 := by omega
  have hA0 : Below w.heap.size w (rplW w sp) := (Below.refl _ _).alloc (Nat.le_refl _) _
  have hb1 : Bts (rplW w sp) ao bs := hb.below hA0
  have hmf : ∀ (fn : Fn) (first cap : Array Value) (w : World), (Instr.makeFunc fn first cap).run Tryz.prog w = .ok (.func fn first cap) w := fun _ _ _ _ => rfl
  have hsz : (rplW w sp).heap.size = w.heap.size + 1 := size_alloc _ _
  have hch : ∀ w2 : World, Chg (fun k => k = sp ∨ k ∈ F1 ∨ k ∈ F2) (rplW w sp) w2 → Chg (fun k => k = sp ∨ k ∈ F1 ∨ k ∈ F2) w w2 := fun _ hc => (Chg.of_below hA0 (fun k => k = sp ∨ k ∈ F1 ∨ k ∈ F2)).trans hc (fun _ _ h => h)
  cases he : rplE s bs with
  | none =>
    have HR := Lib.hid (read_threw (n := n) (c := c) hb1 hl hnc hm (rpl_bad h hs hb hn' hA he))
    have HC := Lib.hid hch
    have HS : rplS s bs = none := by rw [rplS_E, he]
    clear h hs hb hl hnc hm hA hb1 hch
    go_enter Tryz.func44, Tryz.ntmps44
    go_wp2_with fail
    (with_reducible refine HR.out.mono ?_)
    rintro e w2 ⟨code, h0, rfl, hc, -⟩
    have HX := Lib.hid (And.intro h0 (HC.out _ hc))
    clear h0 hc
    go_wp2
    go_ret
    exact ⟨HX.out.2, .inl ⟨HS, code, HX.out.1, rfl⟩⟩
  | some q =>
    obtain ⟨s', r⟩ := q
    have hrl : r.length ≤ 9223372036854775807 := by have := rplE_len he; omega
    have HR := Lib.hid (read_ret (n := n) (c := c) (code := if r = [] then 0 else 5) rfl hrl hb1 hl hnc hm (rpl_ok h hs hb hn' hA he))
    have HC := Lib.hid hch
    have HS := rplS_E s bs
    rw [he] at HS
    clear h hs hb hl hnc hm hA hb1 hch
    go_enter Tryz.func44, Tryz.ntmps44
    go_wp2_with fail
    (with_reducible refine HR.out.mono ?_)
    rintro e w2 ⟨rfl, hc, hg⟩
    have HX := Lib.hid (And.intro (HC.out _ hc) (hg.down (M := w.heap.size) (by omega)))
    clear hg hc
    generalize hco : (if r = [] then (0 : Int) else 5) = co at *
    go_wp2
    go_ret
    refine ⟨HX.out.1, ?_⟩
    cases r with
    | nil => exact .inr ⟨s', HS, by rw [← hco]; rfl, HX.out.2⟩
    | cons x r => exact .inl ⟨HS, 5, by decide, by rw [← hco]; rfl⟩
end Go.Proofs.YtackmgmaippajaaGreat
