/-
  LAYER 16: Join.
-/
import Derived.Test.YtibigfglhpdjmaaDoorDelI
namespace Go.Proofs.YtibigfglhpdjmaaDoor
open Go Go.RowKit

theorem join_out (a : Addr) (z : Int) (w : World) (h : z < 1 ∨ 65535 < z) : Calls Tryd.prog 17 #[.pointer (some a), .int .i64 z] w fun e w' => e = .returned (.int .i64 2) ∧ Below w.heap.size w w' := by
  obtain ⟨a0, _⟩ := cells1 (heap_top w (.cells #[.int .i64 z] 3))
  rcases h with h | h
  · go_enter Tryd.func17, Tryd.ntmps17
    go_wp2
    go_ret
    exact ⟨rfl, (Below.refl _ w).alloc (Nat.le_refl _) _⟩
  · have h2 : ¬ z < 1 := by omega
    go_enter Tryd.func17, Tryd.ntmps17
    go_wp2
    go_ret
    exact ⟨rfl, (Below.refl _ w).alloc (Nat.le_refl _) _⟩
-- BEGIN1
set_option maxHeartbeats 1000000 in
theorem join_none (p : Nat) (l : List Nat) (F : List Nat) (z : Nat) (w : World) (h : MapAt w p l F) (ho : l.length ≤ 16) (hz1 : 1 ≤ z) (hz : z < 65536) (hm : z ∉ l) :
    Calls Tryd.prog 17 #[.pointer (some ⟨p, 0, none⟩), .int .i64 (z : Int)] w fun e w' => e = .returned (.int .i64 11) ∧ Below w.heap.size w w' := by
  obtain ⟨lo, n, cap, h⟩ := h
  have hlen := h.len
  have hc : w.cell? ⟨p, 0, none⟩ = some (.slice lo n cap) := heap_cell h.heap 0
  obtain ⟨a0, _⟩ := cells1 (heap_top w (.cells #[.int .i64 (z : Int)] 3))
  have hca := alloc_cell (o := (.cells #[.int .i64 (z : Int)] 3)) hc
  have a0d : (w.alloc (.cells #[.int .i64 (z : Int)] 3)).drew.cell? ⟨w.heap.size, 0, none⟩ = some (.int .i64 (z : Int)) := a0
  have hcd : (w.alloc (.cells #[.int .i64 (z : Int)] 3)).drew.cell? ⟨p, 0, none⟩ = some (.slice lo n cap) := hca
  have hrow := (h.own.keep (((Chg.refl (fun _ => False) w).alloc (.cells #[.int .i64 (z : Int)] 3)).drew) (fun _ _ h => h)).row
  have HC := Lib.hid (contains_any lo n cap l z _ hrow hlen (by omega))
  rw [decide_eq_false hm] at HC
  have hz0 : ¬ (z : Int) < 1 := by omega
  have hz1 : ¬ (65535 : Int) < (z : Int) := by omega
  clear h ho hrow
  go_enter Tryd.func17, Tryd.ntmps17
  go_wp2
  go_region_with (go_at_call 25; (with_reducible refine HC.out.mono ?_); rintro e w1 ⟨rfl, rfl⟩)
  all_goals go_wp2
  all_goals (
    go_ret
    exact ⟨rfl, by first | exact ((Below.refl _ w).alloc (Nat.le_refl _) _).drew | exact below_drewN ((Below.refl _ w).alloc (Nat.le_refl _) _) _⟩)
-- END1
theorem join_end {w X w3 : World} {p : Nat} {lo : Option Addr} {n cap k z : Nat} {l : List Nat} {F : List Nat} (h : MapIs w p lo n cap l F) (hX : Chg (fun _ => False) w X) (ho : Own w3 1 lo k cap ((without l z).map ci)) (hc : Chg (fun k => ∃ a, lo = some a ∧ a.block = k) X w3)
    (hp : w3.heap[p]? = some (.cells #[.slice lo n cap] 55 (0, 0))) :
    MapAt (w3.setCell ⟨p, 0, none⟩ (.slice lo k cap)) p (without l z) F ∧ Chg (· ∈ F) w (w3.setCell ⟨p, 0, none⟩ (.slice lo k cap)) := by
  have h1 := Chg.one w3 p 0 (.slice lo k cap)
  refine ⟨⟨lo, k, cap, ⟨heap_set hp 0 _, ho.keep h1 (fun a ha e => h.apart a ha e), h.apart, h.foot⟩⟩, (((hX.to (S' := (· ∈ F)) (fun _ h => h.elim)).trans hc ?_).trans h1 ?_)⟩
  · rintro i _ ⟨a, ha, rfl⟩
    rw [h.foot]; exact List.mem_cons_of_mem _ (mem_blk.2 ⟨a, ha, rfl⟩)
  · rintro i _ rfl
    rw [h.foot]; exact List.mem_cons_self
-- BEGIN2
set_option maxHeartbeats 1000000 in
theorem join_go (p : Nat) (l : List Nat) (F : List Nat) (i z : Nat) (w : World) (h : MapAt w p l F) (ho : l.length ≤ 16) (hz1 : 1 ≤ z) (hz : z < 65536) (hi : l[i]? = some z) (hno : ∀ x ∈ l.take i, x ≠ z) :
    Calls Tryd.prog 17 #[.pointer (some ⟨p, 0, none⟩), .int .i64 (z : Int)] w fun e w' => e = .returned (.int .i64 0) ∧ MapAt w' p (without l z) F ∧ Chg (· ∈ F) w w' := by
  obtain ⟨lo, n, cap, h⟩ := h
  have hlen := h.len
  have hc : w.cell? ⟨p, 0, none⟩ = some (.slice lo n cap) := heap_cell h.heap 0
  obtain ⟨a0, _⟩ := cells1 (heap_top w (.cells #[.int .i64 (z : Int)] 3))
  have hca := alloc_cell (o := (.cells #[.int .i64 (z : Int)] 3)) hc
  have a0d : (w.alloc (.cells #[.int .i64 (z : Int)] 3)).drew.cell? ⟨w.heap.size, 0, none⟩ = some (.int .i64 (z : Int)) := a0
  have hcd : (w.alloc (.cells #[.int .i64 (z : Int)] 3)).drew.cell? ⟨p, 0, none⟩ = some (.slice lo n cap) := hca
  have hch : Chg (fun _ => False) w (w.alloc (.cells #[.int .i64 (z : Int)] 3)).drew := ((Chg.refl (fun _ => False) w).alloc (.cells #[.int .i64 (z : Int)] 3)).drew
  have hown := h.own.keep hch (fun _ _ h => h)
  have hap : ∀ a, lo = some a → a.block ≠ w.heap.size := fun a ha => Nat.ne_of_lt (h.own.at_ a ha).2.1
  have HC := Lib.hid (contains_any lo n cap l z _ hown.row hlen (by omega))
  rw [decide_eq_true (List.mem_of_getElem? hi)] at HC
  have HD := Lib.hid (delfunc_any lo n cap l i z w.heap.size _ hown hlen (by omega) a0d hap hi hno)
  have hz0 : ¬ (z : Int) < 1 := by omega
  have hz1 : ¬ (65535 : Int) < (z : Int) := by omega
  have HI := Lib.hid (And.intro h hch)
  clear h ho hown hap hch hi hno
  go_enter Tryd.func17, Tryd.ntmps17
  go_wp2
  go_region_with (go_at_call 25; (with_reducible refine HC.out.mono ?_); rintro e w1 ⟨rfl, rfl⟩)
  all_goals (
    go_wp2_with fail
    (with_reducible refine HD.out.mono ?_)
    rintro e w2 ⟨k, rfl, ho2, hc2⟩
    have hp2 := hc2.heap (HI.out.2.heap HI.out.1.heap (fun h => h)) (fun ⟨a, ha, e⟩ => HI.out.1.apart a ha e)
    obtain ⟨f0, f1⟩ := cells1 hp2
    have H2 := Lib.hid (And.intro ho2 (And.intro hc2 hp2))
    clear ho2 hc2 hp2
    go_wp2
    go_ret
    exact ⟨rfl, join_end HI.out.1 HI.out.2 H2.out.1 H2.out.2.1 H2.out.2.2⟩)
-- END2
/-- Join, in plain words. -/
inductive JoinP (l : List Nat) (z : Int) : Nat → List Nat → Prop
  | out : (z < 1 ∨ 65535 < z) → JoinP l z 2 l
  | none (k : Nat) : z = (k : Int) → 1 ≤ k → k < 65536 → k ∉ l → JoinP l z 11 l
  | go (k : Nat) : z = (k : Int) → 1 ≤ k → k < 65536 → k ∈ l → JoinP l z 0 (without l k)
theorem without_mem {l : List Nat} {z x : Nat} : x ∈ without l z ↔ x ∈ l ∧ x ≠ z := by simp [without]
theorem Ok.without {l : List Nat} {z : Nat} (h : Ok l) (hz : 1 ≤ z) : Ok (without l z) := by
  refine ⟨List.Pairwise.filter _ h.inc, ?_, Nat.le_trans (List.length_filter_le _ _) h.len, fun x hx => h.top x (without_mem.1 hx).1⟩
  cases l with
  | nil => have := h.zero; cases this
  | cons a l =>
    have h0 := h.zero
    simp at h0
    subst h0
    have : decide ((0 : Nat) ≠ z) = true := by simp; omega
    rw [Go.Proofs.YtibigfglhpdjmaaDoor.without, List.filter_cons, this]
    rfl
theorem first_at {l : List Nat} {z : Nat} (h : z ∈ l) : ∃ i, l[i]? = some z ∧ ∀ x ∈ l.take i, x ≠ z := by
  induction l with
  | nil => cases h
  | cons a l ih =>
    by_cases ha : a = z
    · exact ⟨0, by rw [ha]; rfl, by simp⟩
    · have h' : z ∈ l := by rcases List.mem_cons.1 h with h | h; exact absurd h.symm ha; exact h
      obtain ⟨i, h1, h2⟩ := ih h'
      refine ⟨i + 1, h1, fun x hx => ?_⟩
      rw [List.take_succ_cons] at hx
      rcases List.mem_cons.1 hx with rfl | hx
      · exact ha
      · exact h2 x hx
theorem join_in (w0 w : World) (p : Nat) (l F : List Nat) (z : Int) (h : MapIn w0 w p l F) :
    Calls Tryd.prog 17 #[.pointer (some ⟨p, 0, none⟩), .int .i64 z] w fun e w' => ∃ (c : Nat) (l' : List Nat), e = .returned (.int .i64 (c : Int)) ∧ JoinP l z c l' ∧ MapIn w0 w' p l' F ∧ Chg (· ∈ F) w w' := by
  by_cases hz : z < 1 ∨ 65535 < z
  · refine (join_out _ z w hz).mono ?_
    rintro e w' ⟨rfl, hb⟩
    exact ⟨2, l, rfl, .out hz, h.stays hb, Chg.of_below hb _⟩
  · obtain ⟨k, rfl⟩ : ∃ k : Nat, z = (k : Int) := ⟨z.toNat, by omega⟩
    by_cases hm : k ∈ l
    · obtain ⟨i, hi, hno⟩ := first_at hm
      refine (join_go p l F i k w h.map h.ok.len (by omega) (by omega) hi hno).mono ?_
      rintro e w' ⟨rfl, h1, h2⟩
      exact ⟨0, without l k, rfl, .go k rfl (by omega) (by omega) hm, ⟨h1, h.new, h.below.trans (h2.below h.below.size h.new), h.ok.without (by omega)⟩, h2⟩
    · refine (join_none p l F k w h.map h.ok.len (by omega) (by omega) hm).mono ?_
      rintro e w' ⟨rfl, hb⟩
      exact ⟨11, l, rfl, .none k rfl (by omega) (by omega) hm, h.stays hb, Chg.of_below hb _⟩
end Go.Proofs.YtibigfglhpdjmaaDoor
