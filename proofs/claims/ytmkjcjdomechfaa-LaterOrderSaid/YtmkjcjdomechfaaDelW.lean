/-
  slices.IndexFunc, slices.DeleteFunc of elements of three cells.
-/
import Derived.Test.YtmkjcjdomechfaaProg
import Derived.Test.YtmkjcjdomechfaaFlat

import Derived.Deep.LoopGhost
import Derived.Deep.QuietTactic
import Derived.BigQuiet
import Derived.WalkLawsBesides
import Derived.WalkSpells
import Derived.Lib.SliceRun
import Derived.Deep.DeepCutAuto
import Derived.Deep.CutBlock
import Derived.Deep.RegionLaw
import Derived.Deep.RegionWith
import Derived.Handy
namespace Go.Proofs.Ytmkjcjdomechfaa
open Go Go.RowKit

/-- A place that waits. -/
structure Wt where
  at_ : Nat
  led : Nat
  ent : Nat
def Wt.cells (e : Wt) : List Value := [.int .u64 (e.at_ : Int), .int .u64 (e.led : Int), .int .u64 (e.ent : Int)]
def Wt.val (e : Wt) : Value := .agg #[.int .u64 (e.at_ : Int), .int .u64 (e.led : Int), .int .u64 (e.ent : Int)]
theorem el_e : Elem Wt.cells 3 := ⟨fun _ => rfl, by decide, fun e u hu => by simp [Wt.cells] at hu; rcases hu with rfl | rfl | rfl <;> rfl⟩
theorem heap_top (w : World) (o : Obj) : (w.alloc o).heap[w.heap.size]? = some o := by show (w.heap.push o)[w.heap.size]? = _; simp
theorem size_alloc (w : World) (o : Obj) : (w.alloc o).heap.size = w.heap.size + 1 := by show (w.heap.push o).size = _; simp
theorem cells3 {w : World} {p : Nat} {a b c : Value} {t : TypeId} (h : w.heap[p]? = some (.cells #[a, b, c] t (0, 0))) :
    w.cell? ⟨p, 0, none⟩ = some a ∧ w.cell? ⟨p, 1, none⟩ = some b ∧ w.cell? ⟨p, 2, none⟩ = some c ∧ ∀ i, w.frozen? ⟨p, i, none⟩ = false := by
  have h0 := heap_cell h 0
  have h1 := heap_cell h 1
  have h2 := heap_cell h 2
  simp at h0 h1 h2
  exact ⟨h0, h1, h2, fun i => heap_frozen h i⟩
theorem cells2 {w : World} {p : Nat} {a b : Value} {t : TypeId} (h : w.heap[p]? = some (.cells #[a, b] t (0, 0))) : w.cell? ⟨p, 0, none⟩ = some a ∧ w.cell? ⟨p, 1, none⟩ = some b ∧ ∀ i, w.frozen? ⟨p, i, none⟩ = false := by
  have h0 := heap_cell h 0
  have h1 := heap_cell h 1
  simp at h0 h1
  exact ⟨h0, h1, fun i => heap_frozen h i⟩
theorem cells1 {w : World} {p : Nat} {a : Value} {t : TypeId} (h : w.heap[p]? = some (.cells #[a] t (0, 0))) : w.cell? ⟨p, 0, none⟩ = some a ∧ ∀ i, w.frozen? ⟨p, i, none⟩ = false := by
  have h0 := heap_cell h 0
  simp at h0
  exact ⟨h0, fun i => heap_frozen h i⟩

theorem el_s : ElemOf Try.prog 27 45 (.agg #[.int .u64 0, .int .u64 0, .int .u64 0]) 3 24 := .mk' Try.underlying27 (by kernel_rfl) rfl (by decide)
theorem zero_one' : ∀ u ∈ (.agg #[.int .u64 0, .int .u64 0, .int .u64 0] : Value).cells.toList, u.oneCell' = true := by
  intro u hu
  simp [Value.cells] at hu
  first | (subst hu; rfl) | (rcases hu with rfl | rfl <;> rfl) | (rcases hu with rfl | rfl | rfl <;> rfl)
theorem el_at {w : World} {lo : Option Addr} {n cap i : Nat} {es : List Wt} {e : Wt} (ho : Own w 3 lo n cap (es.flatMap Wt.cells)) (he : es[i]? = some e) :
    ∃ b off, lo = some ⟨b, off, none⟩ ∧ ∀ v0 v1 v2, e.cells = [v0, v1, v2] → w.cell? ⟨b, off + i * 3, none⟩ = some v0 ∧ w.cell? ⟨b, off + i * 3 + 1, none⟩ = some v1 ∧ w.cell? ⟨b, off + i * 3 + 2, none⟩ = some v2 ∧ w.frozen? ⟨b, off + i * 3, none⟩ = false ∧ w.frozen? ⟨b, off + i * 3 + 1, none⟩ = false ∧ w.frozen? ⟨b, off + i * 3 + 2, none⟩ = false := by
  obtain ⟨b, off, rfl, h⟩ := fl_at el_e ho he
  refine ⟨b, off, rfl, fun v0 v1 v2 hc => ?_⟩
  rw [hc] at h
  have h0 := h 0 v0 rfl
  have h1 := h 1 v1 rfl
  have h2 := h 2 v2 rfl
  simp only [← Nat.add_assoc, Nat.add_zero] at h0 h1 h2
  exact ⟨h0.1, h1.1, h2.1, h0.2, h1.2, h2.2⟩
theorem take_next {es : List Wt} {k : Nat} {e : Wt} (h : es[k]? = some e) : es.take k ++ [e] = es.take (k + 1) := by rw [List.take_add_one, h]; rfl

/-- Behind a predicate's calls. -/
theorem at_none {lo : Option Addr} {F F' : List Nat} {w w1 : World} (h : ∀ a, lo = some a → a.block ∉ F ∧ a.block < w.heap.size) (hF : ∀ k ∈ F', k ∈ F ∨ w.heap.size ≤ k) : ∀ a, lo = some a → a.block ∉ F' := by
  intro a ha hk
  rcases hF _ hk with h1 | h1
  · exact (h a ha).1 h1
  · have := (h a ha).2; omega
set_option maxHeartbeats 2000000 in
set_option maxRecDepth 100000 in
theorem index_any {f : Nat} {caps : Array Value} {pr : Wt → Bool} {St : List Wt → List Nat → World → Prop} (lo : Option Addr) (n cap : Nat) (es : List Wt) (F : List Nat) (w : World) (ho : Own w 3 lo n cap (es.flatMap Wt.cells)) (h : DelBy Try.prog f caps Wt.val pr es St) (h0 : St [] F w) (hF : ∀ a, lo = some a → a.block ∉ F) (hn : n ≤ 1000000) :
    Calls Try.prog 30 #[.slice lo n cap, .func (.func f) #[] caps] w fun r w' => ∃ (R : Int) (F' : List Nat), r = .returned (.int .i64 R) ∧ Chg (· ∈ F) w w' ∧ (∀ k ∈ F', k ∈ F ∨ w.heap.size ≤ k) ∧
      ((R = -1 ∧ (∀ e ∈ es, pr e = false) ∧ St es F' w') ∨ (∃ (i : Nat) (x : Wt), R = (i : Int) ∧ es[i]? = some x ∧ pr x = true ∧ (∀ y ∈ es.take i, pr y = false) ∧ St (es.take (i + 1)) F' w')) := by
  have hes := fl_own_len el_e ho
  have hcf := h.fn
  have HH := Lib.hid (And.intro ho (And.intro h (And.intro h0 (And.intro hes (And.intro hF (fun a (ha : lo = some a) => (ho.at_ a ha).2.1))))))
  clear ho h h0 hes hF
  go_enter Try.func30, Try.ntmps30
  go_wp2
  go_loopg [8] n (fun g v wr => ∃ (k : Nat) (F1 : List Nat), g + k = n ∧ v = .int .i64 k ∧ Chg (· ∈ F) w wr ∧ (∀ k ∈ F1, k ∈ F ∨ w.heap.size ≤ k) ∧ St (es.take k) F1 wr ∧ ∀ y ∈ es.take k, pr y = false)
  case atStart => exact ⟨0, F, by omega, rfl, Chg.refl _ _, fun _ h => .inl h, HH.out.2.2.1, by simp⟩
  case round =>
    obtain ⟨k, F1, hgk, rfl, hch, hgr, hst, hno⟩ := hrel
    by_cases hk : k < n
    · obtain ⟨e, he⟩ : ∃ e, es[k]? = some e := ⟨_, List.getElem?_eq_getElem (by rw [HH.out.2.2.2.1]; exact hk)⟩
      have how := HH.out.1.keep hch (fun a ha => HH.out.2.2.2.2.1 a ha)
      obtain ⟨b, off, hlo, hcs⟩ := el_at how he
      have HB := Lib.hid (HH.out.2.1.by' (es.take k) e F1 wr (by rw [take_next he]; exact List.take_prefix _ _) hst)
      have hpr : pr e = true ∨ pr e = false := by cases pr e <;> simp
      have HS := Lib.hid (And.intro hch (And.intro hno (And.intro he hgr)))
      obtain ⟨x0, x1, x2⟩ := e
      obtain ⟨c0, c1, c2, _⟩ := hcs _ _ _ rfl
      clear hch hst hno he how hcs hgr
      subst hlo
      rcases hpr with hpr | hpr
      · have HP := Lib.hid hpr
        have HC := Lib.hid (show Calls Try.prog f (#[.agg #[.int .u64 (x0 : Int), .int .u64 (x1 : Int), .int .u64 (x2 : Int)]] ++ caps) wr (fun r w2 => r = .returned (.bool true) ∧ ∃ F', St (es.take k ++ [_]) F' w2 ∧ Chg (· ∈ F1) wr w2 ∧ ∀ k ∈ F', k ∈ F1 ∨ wr.heap.size ≤ k) from hpr ▸ HB.out)
        clear hpr HB
        go_wp2_with ((with_reducible refine HC.out.mono ?_); rintro r w1 ⟨rfl, F2, hs1, hc1, hg1⟩; have H1 := Lib.hid (And.intro hs1 (And.intro hc1 hg1)); clear hs1 hc1 hg1)
        go_ret
        refine ⟨(k : Int), F2, rfl, HS.out.1.trans H1.out.2.1 ?_, ?_, .inr ⟨k, _, rfl, HS.out.2.2.1, HP.out, HS.out.2.1, ?_⟩⟩
        · intro i hi hi1
          rcases HS.out.2.2.2 i hi1 with h | h
          · exact h
          · omega
        · intro i hi
          rcases H1.out.2.2 i hi with h | h
          · exact HS.out.2.2.2 i h
          · exact .inr (Nat.le_trans HS.out.1.size h)
        · rw [← take_next HS.out.2.2.1]; exact H1.out.1
      · have HP := Lib.hid hpr
        have HC := Lib.hid (show Calls Try.prog f (#[.agg #[.int .u64 (x0 : Int), .int .u64 (x1 : Int), .int .u64 (x2 : Int)]] ++ caps) wr (fun r w2 => r = .returned (.bool false) ∧ ∃ F', St (es.take k ++ [_]) F' w2 ∧ Chg (· ∈ F1) wr w2 ∧ ∀ k ∈ F', k ∈ F1 ∨ wr.heap.size ≤ k) from hpr ▸ HB.out)
        clear hpr HB
        go_wp2_with ((with_reducible refine HC.out.mono ?_); rintro r w1 ⟨rfl, F2, hs1, hc1, hg1⟩; have H1 := Lib.hid (And.intro hs1 (And.intro hc1 hg1)); clear hs1 hc1 hg1)
        go_roundg (gk - 1)
        case measure => omega
        case rel =>
          refine ⟨k + 1, F2, by omega, by go_num, HS.out.1.trans H1.out.2.1 ?_, ?_, ?_, ?_⟩
          · intro i hi hi1
            rcases HS.out.2.2.2 i hi1 with h | h
            · exact h
            · omega
          · intro i hi
            rcases H1.out.2.2 i hi with h | h
            · exact HS.out.2.2.2 i h
            · exact .inr (Nat.le_trans HS.out.1.size h)
          · rw [← take_next HS.out.2.2.1]; exact H1.out.1
          · rw [← take_next HS.out.2.2.1]
            intro y hy
            rcases List.mem_append.1 hy with hy | hy
            · exact HS.out.2.1 y hy
            · rw [List.mem_singleton] at hy; subst hy; exact HP.out
    · have HS := Lib.hid (And.intro hch (And.intro hst (And.intro hno hgr)))
      clear hch hst hno hgr
      go_wp2
      go_ret
      have e1 : es.take k = es := List.take_of_length_le (by rw [HH.out.2.2.2.1]; omega)
      refine ⟨-1, F1, rfl, HS.out.1, HS.out.2.2.2, .inl ⟨rfl, ?_, ?_⟩⟩
      · have := HS.out.2.2.1; rwa [e1] at this
      · have := HS.out.2.1; rwa [e1] at this
theorem index_none {f : Nat} {caps : Array Value} {pr : Wt → Bool} {St : List Wt → List Nat → World → Prop} (lo : Option Addr) (n cap : Nat) (es : List Wt) (F : List Nat) (w : World) (ho : Own w 3 lo n cap (es.flatMap Wt.cells)) (h : DelBy Try.prog f caps Wt.val pr es St) (h0 : St [] F w) (hF : ∀ a, lo = some a → a.block ∉ F) (hn : n ≤ 1000000) (hno : ∀ e ∈ es, pr e = false) :
    Calls Try.prog 30 #[.slice lo n cap, .func (.func f) #[] caps] w fun r w' => ∃ F', r = .returned (.int .i64 (-1)) ∧ Chg (· ∈ F) w w' ∧ (∀ k ∈ F', k ∈ F ∨ w.heap.size ≤ k) ∧ St es F' w' := by
  refine (index_any lo n cap es F w ho h h0 hF hn).mono ?_
  rintro r w' ⟨R, F', rfl, h1, h2, ⟨rfl, _, h3⟩ | ⟨i, x, rfl, hx, hp, _, _⟩⟩
  · exact ⟨F', rfl, h1, h2, h3⟩
  · rw [hno x (List.mem_of_getElem? hx)] at hp; cases hp
theorem index_some {f : Nat} {caps : Array Value} {pr : Wt → Bool} {St : List Wt → List Nat → World → Prop} (lo : Option Addr) (n cap : Nat) (es : List Wt) (F : List Nat) (w : World) (ho : Own w 3 lo n cap (es.flatMap Wt.cells)) (h : DelBy Try.prog f caps Wt.val pr es St) (h0 : St [] F w) (hF : ∀ a, lo = some a → a.block ∉ F) (hn : n ≤ 1000000)
    {i : Nat} {x : Wt} (hi : es[i]? = some x) (hx : pr x = true) (hno : ∀ y ∈ es.take i, pr y = false) :
    Calls Try.prog 30 #[.slice lo n cap, .func (.func f) #[] caps] w fun r w' => ∃ F', r = .returned (.int .i64 (i : Int)) ∧ Chg (· ∈ F) w w' ∧ (∀ k ∈ F', k ∈ F ∨ w.heap.size ≤ k) ∧ St (es.take (i + 1)) F' w' := by
  refine (index_any lo n cap es F w ho h h0 hF hn).mono ?_
  rintro r w' ⟨R, F', rfl, h1, h2, ⟨rfl, h4, h3⟩ | ⟨k, y, rfl, hy, hp, h4, h3⟩⟩
  · rw [h4 x (List.mem_of_getElem? hi)] at hx; cases hx
  · have hki : k = i := by
      rcases Nat.lt_trichotomy k i with h | h | h
      · have := hno y (List.mem_of_getElem? (i := k) (by rw [List.getElem?_take_of_lt h]; exact hy))
        rw [this] at hp; cases hp
      · exact h
      · have := h4 x (List.mem_of_getElem? (i := i) (by rw [List.getElem?_take_of_lt h]; exact hi))
        rw [this] at hx; cases hx
    subst hki
    exact ⟨F', rfl, h1, h2, h3⟩
theorem first_of (pr : Wt → Bool) (es : List Wt) : (∀ e ∈ es, pr e = false) ∨ ∃ (i : Nat) (x : Wt), es[i]? = some x ∧ pr x = true ∧ ∀ y ∈ es.take i, pr y = false := by
  induction es with
  | nil => exact .inl (by simp)
  | cons e es ih =>
    cases he : pr e with
    | true => exact .inr ⟨0, e, rfl, he, by simp⟩
    | false =>
      rcases ih with h | ⟨i, x, h1, h2, h3⟩
      · exact .inl (fun y hy => by rcases List.mem_cons.1 hy with rfl | hy; exact he; exact h y hy)
      · exact .inr ⟨i + 1, x, h1, h2, fun y hy => by rw [List.take_succ_cons] at hy; rcases List.mem_cons.1 hy with rfl | hy; exact he; exact h3 y hy⟩
theorem el_set {w : World} {b off n cap i : Nat} {xs : List Wt} (h : Own w 3 (some ⟨b, off, none⟩) n cap (xs.flatMap Wt.cells)) (e : Wt) (v0 v1 v2 : Value) (hc : e.cells = [v0, v1, v2]) (hi : i < xs.length) :
    Own (((w.setCell ⟨b, off + i * 3, none⟩ v0).setCell ⟨b, off + i * 3 + 1, none⟩ v1).setCell ⟨b, off + i * 3 + 2, none⟩ v2) 3 (some ⟨b, off, none⟩) n cap ((xs.set i e).flatMap Wt.cells) := by
  have hl := fl_own_len el_e h
  rw [← fl_set3 el_e xs i e v0 v1 v2 hc hi]
  have h1 := h.set (i * 3) v0 (by omega)
  have h2 := h1.set (i * 3 + 1) v1 (by omega)
  have h3 := h2.set (i * 3 + 2) v2 (by omega)
  simpa only [Nat.add_assoc] using h3
end Go.Proofs.Ytmkjcjdomechfaa
