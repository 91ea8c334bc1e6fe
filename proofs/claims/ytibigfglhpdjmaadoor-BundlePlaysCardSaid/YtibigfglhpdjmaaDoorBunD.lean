/-
  LAYER 16: a Map in memory; New, place, Of.
-/
import Derived.Test.YtibigfglhpdjmaaDoorBunC
namespace Go.Proofs.YtibigfglhpdjmaaDoor
open Go Go.RowKit

def blk (o : Option Addr) : List Nat := (o.map (·.block)).toList
theorem mem_blk {o : Option Addr} {k : Nat} : k ∈ blk o ↔ ∃ a, o = some a ∧ a.block = k := by
  cases o <;> simp [blk, eq_comm]
structure MapIs (w : World) (p : Nat) (lo : Option Addr) (n cap : Nat) (l : List Nat) (F : List Nat) : Prop where
  heap : w.heap[p]? = some (.cells #[.slice lo n cap] 55 (0, 0))
  own : Own w 1 lo n cap (l.map ci)
  apart : ∀ a, lo = some a → a.block ≠ p
  foot : F = p :: blk lo
theorem MapIs.len {w : World} {p : Nat} {lo : Option Addr} {n cap : Nat} {l : List Nat} {F : List Nat} (h : MapIs w p lo n cap l F) : l.length = n := by
  have := h.own.len; simpa using this
theorem MapIs.lt {w : World} {p : Nat} {lo : Option Addr} {n cap : Nat} {l : List Nat} {F : List Nat} (h : MapIs w p lo n cap l F) : ∀ k ∈ F, k < w.heap.size := by
  intro k hk
  rw [h.foot] at hk
  rcases List.mem_cons.1 hk with rfl | hk
  · exact heap_lt h.heap
  · obtain ⟨a, ha, rfl⟩ := mem_blk.1 hk
    exact (h.own.at_ a ha).2.1
theorem MapIs.keep {w w' : World} {p : Nat} {lo : Option Addr} {n cap : Nat} {l : List Nat} {F : List Nat} (h : MapIs w p lo n cap l F) {S : Nat → Prop} (hc : Chg S w w') (hS : ∀ k ∈ F, ¬ S k) : MapIs w' p lo n cap l F :=
  ⟨hc.heap h.heap (hS p (by rw [h.foot]; exact List.mem_cons_self)), h.own.keep hc (fun a ha => hS _ (by rw [h.foot]; exact List.mem_cons_of_mem _ (mem_blk.2 ⟨a, ha, rfl⟩))), h.apart, h.foot⟩
def MapAt (w : World) (p : Nat) (l : List Nat) (F : List Nat) : Prop := ∃ lo n cap, MapIs w p lo n cap l F
theorem MapAt.lt {w : World} {p : Nat} {l : List Nat} {F : List Nat} (h : MapAt w p l F) : ∀ k ∈ F, k < w.heap.size := by
  obtain ⟨_, _, _, h⟩ := h; exact h.lt
theorem MapAt.keep {w w' : World} {p : Nat} {l : List Nat} {F : List Nat} (h : MapAt w p l F) {S : Nat → Prop} (hc : Chg S w w') (hS : ∀ k ∈ F, ¬ S k) : MapAt w' p l F := by
  obtain ⟨lo, n, cap, h⟩ := h; exact ⟨lo, n, cap, h.keep hc hS⟩
theorem MapAt.stays {w w' : World} {p : Nat} {l : List Nat} {F : List Nat} (h : MapAt w p l F) (hb : Below w.heap.size w w') : MapAt w' p l F :=
  h.keep (Chg.of_below hb (fun _ => False)) (fun _ _ h => h)
/-- Where bundles begin: from 0 on, one behind the other. -/
structure Ok (l : List Nat) : Prop where
  inc : Inc l
  zero : l[0]? = some 0
  len : l.length ≤ 16
  top : ∀ x ∈ l, x < 65536
-- BEGIN1
theorem new_any (w : World) : Calls Tryd.prog 12 #[] w fun e w' => ∃ p F, e = .returned (.pointer (some ⟨p, 0, none⟩)) ∧ Below w.heap.size w w' ∧ MapAt w' p [0] F ∧ ∀ k ∈ F, w.heap.size ≤ k := by
  go_enter Tryd.func12, Tryd.ntmps12
  go_wp2
  go_ret
  have h1 := Own.alloc w 1 1 1 #[.int .i64 0] 3 ([0].map ci) rfl (Nat.le_refl _) (by unfold maxLen; omega) (by simp) rfl
  have h2 := (Below.refl _ w).alloc (Nat.le_refl _) (.cells #[.int .i64 0] 3)
  have h3 : (w.alloc (.cells #[.int .i64 0] 3)).heap.size = w.heap.size + 1 := size_alloc _ _
  refine ⟨_, _, rfl, h2.alloc (by omega) _, ⟨_, 1, 1, ⟨by rw [← h3]; exact heap_top _ _, h1.keep ((Chg.refl (fun _ => False) _).alloc _) (fun _ _ h => h), ?_, rfl⟩⟩, ?_⟩
  · intro a ha; cases ha; simp
  · intro k hk
    simp [blk] at hk
    omega
-- END1
-- BEGIN2
theorem place_any (p : Nat) (l : List Nat) (F : List Nat) (z : Nat) (w : World) (h : MapAt w p l F) (ho : Ok l) :
    Calls Tryd.prog 27 #[.pointer (some ⟨p, 0, none⟩), .int .i64 (z : Int)] w fun e w' => ∃ q : Nat, e = .returned (.int .i64 (q : Int)) ∧ Below w.heap.size w w' ∧ q < l.length ∧ (∀ k x, k ≤ q → l[k]? = some x → x ≤ z) ∧ (∀ k x, q < k → l[k]? = some x → z < x) := by
  obtain ⟨lo, n, cap, h⟩ := h
  have hlen := h.len
  have h16 := ho.len
  have hc : w.cell? ⟨p, 0, none⟩ = some (.slice lo n cap) := heap_cell h.heap 0
  have HB := Lib.hid (bs_any lo n cap l z w h.own.row hlen (by omega) ho.inc)
  have HI := Lib.hid (And.intro ho hlen)
  clear h ho
  go_enter Tryd.func27, Tryd.ntmps27
  go_wp2_with fail
  (with_reducible refine HB.out.mono ?_)
  rintro e w1 ⟨i, fd, rfl, hb, hin, hlo, hhi, hfd⟩
  have HR := Lib.hid (And.intro hb (And.intro hlo hhi))
  clear hb hlo hhi
  cases fd with
  | true =>
    have HF := Lib.hid (hfd.1 rfl)
    clear hfd
    go_wp2
    go_ret
    have hi := HF.out
    have hlt := (List.getElem?_eq_some_iff.1 hi).1
    refine ⟨i, rfl, HR.out.1, hlt, fun k x hk hx => HI.out.1.inc.le k i x z hk hx hi, fun k x hk hx => ?_⟩
    have h1 := HR.out.2.2 k x (by omega) hx
    obtain ⟨hk1, rfl⟩ := List.getElem?_eq_some_iff.1 hx
    obtain ⟨hi1, hi2⟩ := List.getElem?_eq_some_iff.1 hi
    have := List.pairwise_iff_getElem.1 HI.out.1.inc i k hi1 hk1 hk
    omega
  | false =>
    have HF := Lib.hid (fun h => (by have := hfd.2 h; cases this) : l[i]? = some z → False)
    clear hfd
    have hi0 : i ≠ 0 := by
      rintro rfl
      have := HR.out.2.2 0 0 (Nat.le_refl _) HI.out.1.zero
      obtain rfl : z = 0 := by omega
      exact HF.out HI.out.1.zero
    obtain ⟨q, rfl⟩ : ∃ q, i = q + 1 := ⟨i - 1, by omega⟩
    go_wp2
    go_ret
    refine ⟨q, by go_num, HR.out.1, by omega, fun k x hk hx => Nat.le_of_lt (HR.out.2.1 k x (by omega) hx), fun k x hk hx => ?_⟩
    have h1 := HR.out.2.2 k x (by omega) hx
    rcases Nat.lt_or_ge z x with h2 | h2
    · exact h2
    · obtain rfl : z = x := by omega
      have h3 : k = q + 1 ∨ q + 1 < k := by omega
      rcases h3 with rfl | h3
      · exact absurd hx HF.out
      · obtain ⟨y, hy⟩ : ∃ y, l[q + 1]? = some y := ⟨_, List.getElem?_eq_getElem (by have := (List.getElem?_eq_some_iff.1 hx).1; omega)⟩
        have h4 := HR.out.2.2 (q + 1) y (Nat.le_refl _) hy
        obtain ⟨hk1, hk2⟩ := List.getElem?_eq_some_iff.1 hx
        obtain ⟨hi1, hi2⟩ := List.getElem?_eq_some_iff.1 hy
        have := List.pairwise_iff_getElem.1 HI.out.1.inc (q + 1) k hi1 hk1 h3
        omega
-- END2
def OfP (l : List Nat) (z a b : Nat) : Prop := ∃ q, l[q]? = some a ∧ (l[q + 1]? = some b ∨ l.length = q + 1 ∧ b = 65536) ∧ (∀ k x, k ≤ q → l[k]? = some x → x ≤ z) ∧ (∀ k x, q < k → l[k]? = some x → z < x)
-- BEGIN3
theorem of_any (p : Nat) (l : List Nat) (F : List Nat) (z : Nat) (w : World) (h : MapAt w p l F) (ho : Ok l) (hz : z < 65536) :
    Calls Tryd.prog 15 #[.pointer (some ⟨p, 0, none⟩), .int .i64 (z : Int)] w fun e w' => ∃ a b : Nat, e = .returned (.tuple #[.int .i64 (a : Int), .int .i64 (b : Int), .bool true]) ∧ Below w.heap.size w w' ∧ OfP l z a b := by
  have HP := Lib.hid (place_any p l F z w h ho)
  have HM := Lib.hid h
  have h16 := ho.len
  have hz0 : ¬ (z : Int) < 0 := by omega
  have hz1 : ¬ (65535 : Int) < (z : Int) := by omega
  clear h ho
  go_enter Tryd.func15, Tryd.ntmps15
  go_wp2_with fail
  (with_reducible refine HP.out.mono ?_)
  rintro e w1 ⟨q, rfl, hb, hq, hlo, hhi⟩
  have hm := HM.out.stays hb
  obtain ⟨lo, n, cap, hm⟩ := hm
  have hlen := hm.len
  have hc : w1.cell? ⟨p, 0, none⟩ = some (.slice lo n cap) := heap_cell hm.heap 0
  obtain ⟨a, ha⟩ : ∃ a, l[q]? = some a := ⟨_, List.getElem?_eq_getElem hq⟩
  obtain ⟨b, off, rfl, hca⟩ := row_ci hm.own.row ha
  have hqn : (q : Int) < (n : Int) := by omega
  have hq0 : (0 : Int) ≤ (q : Int) := by omega
  have hwq := IntWalk.i64_in ((q : Int) + 1) (by omega)
  have HR := Lib.hid (And.intro hb (And.intro hlo (And.intro hhi (And.intro ha hlen))))
  by_cases hq1 : q + 1 < n
  · obtain ⟨y, hy⟩ : ∃ y, l[q + 1]? = some y := ⟨_, List.getElem?_eq_getElem (by omega)⟩
    obtain ⟨b', off', hbo, hcb⟩ := row_ci hm.own.row hy
    cases hbo
    have HY := Lib.hid hy
    have hq1I : (q : Int) + 1 < (n : Int) := by omega
    have hq2 : (0 : Int) ≤ (q : Int) + 1 := by omega
    clear hb hlo hhi ha hlen hm hy
    go_wp2
    go_ret3
    exact ⟨a, y, rfl, HR.out.1, q, HR.out.2.2.2.1, .inl HY.out, HR.out.2.1, HR.out.2.2.1⟩
  · have hq1I : ¬ (q : Int) + 1 < (n : Int) := by omega
    clear hb hlo hhi ha hlen hm
    go_wp2
    go_ret3
    exact ⟨a, 65536, rfl, HR.out.1, q, HR.out.2.2.2.1, .inr ⟨by have := HR.out.2.2.2.2; omega, rfl⟩, HR.out.2.1, HR.out.2.2.1⟩
-- END3
theorem of_out (po : Option Addr) (z : Int) (w : World) (h : po = none ∨ z < 0 ∨ 65535 < z) :
    Calls Tryd.prog 15 #[.pointer po, .int .i64 z] w fun e w' => e = .returned (.tuple #[.int .i64 0, .int .i64 0, .bool false]) ∧ Below w.heap.size w w' := by
  cases po with
  | none =>
    clear h
    go_enter Tryd.func15, Tryd.ntmps15
    go_wp2
    go_ret3
    exact ⟨rfl, Below.refl _ _⟩
  | some a =>
    rcases h with h | h | h
    · cases h
    · go_enter Tryd.func15, Tryd.ntmps15
      go_wp2
      go_ret3
      exact ⟨rfl, Below.refl _ _⟩
    · have h2 : ¬ z < 0 := by omega
      go_enter Tryd.func15, Tryd.ntmps15
      go_wp2
      go_ret3
      exact ⟨rfl, Below.refl _ _⟩
end Go.Proofs.YtibigfglhpdjmaaDoor
