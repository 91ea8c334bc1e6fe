/-
  LAYER 16: Split.
-/
import Derived.Test.YtibigfglhpdjmaaDoorBunD
namespace Go.Proofs.YtibigfglhpdjmaaDoor
open Go Go.RowKit

theorem alloc_cell {w : World} {a : Addr} {v : Value} {o : Obj} (h : w.cell? a = some v) : (w.alloc o).cell? a = some v := by
  rw [World.cell?_alloc_lt _ _ _ (World.block_lt_of_cell? w a h)]; exact h
theorem split_nil (z : Int) (w : World) : Calls Tryd.prog 13 #[.pointer none, .int .i64 z] w fun e w' => e = .returned (.int .i64 1) ∧ Below w.heap.size w w' := by
  go_enter Tryd.func13, Tryd.ntmps13
  go_wp2
  go_ret
  exact ⟨rfl, Below.refl _ _⟩
theorem split_out (a : Addr) (z : Int) (w : World) (h : z < 1 ∨ 65535 < z) : Calls Tryd.prog 13 #[.pointer (some a), .int .i64 z] w fun e w' => e = .returned (.int .i64 2) ∧ Below w.heap.size w w' := by
  rcases h with h | h
  · go_enter Tryd.func13, Tryd.ntmps13
    go_wp2
    go_ret
    exact ⟨rfl, Below.refl _ _⟩
  · have h2 : ¬ z < 1 := by omega
    go_enter Tryd.func13, Tryd.ntmps13
    go_wp2
    go_ret
    exact ⟨rfl, Below.refl _ _⟩
-- BEGIN1
theorem split_has (p : Nat) (l : List Nat) (F : List Nat) (z : Nat) (w : World) (h : MapAt w p l F) (ho : l.length ≤ 16) (hz1 : 1 ≤ z) (hz : z < 65536) (hm : z ∈ l) :
    Calls Tryd.prog 13 #[.pointer (some ⟨p, 0, none⟩), .int .i64 (z : Int)] w fun e w' => e = .returned (.int .i64 12) ∧ Below w.heap.size w w' := by
  obtain ⟨lo, n, cap, h⟩ := h
  have hlen := h.len
  have hc : w.cell? ⟨p, 0, none⟩ = some (.slice lo n cap) := heap_cell h.heap 0
  have HC := Lib.hid (contains_any lo n cap l z w h.own.row hlen (by omega))
  rw [decide_eq_true hm] at HC
  have hz0 : ¬ (z : Int) < 1 := by omega
  have hz1 : ¬ (65535 : Int) < (z : Int) := by omega
  clear h ho
  go_enter Tryd.func13, Tryd.ntmps13
  go_wp2_with fail
  (with_reducible refine HC.out.mono ?_)
  rintro e w1 ⟨rfl, rfl⟩
  go_wp2
  go_ret
  exact ⟨rfl, Below.refl _ _⟩
theorem split_full (p : Nat) (l : List Nat) (F : List Nat) (z : Nat) (w : World) (h : MapAt w p l F) (ho : l.length = 16) (hz1 : 1 ≤ z) (hz : z < 65536) (hm : z ∉ l) :
    Calls Tryd.prog 13 #[.pointer (some ⟨p, 0, none⟩), .int .i64 (z : Int)] w fun e w' => e = .returned (.int .i64 14) ∧ Below w.heap.size w w' := by
  obtain ⟨lo, n, cap, h⟩ := h
  have hlen := h.len
  have hc : w.cell? ⟨p, 0, none⟩ = some (.slice lo n cap) := heap_cell h.heap 0
  have HC := Lib.hid (contains_any lo n cap l z w h.own.row hlen (by omega))
  rw [decide_eq_false hm] at HC
  have hz0 : ¬ (z : Int) < 1 := by omega
  have hz1 : ¬ (65535 : Int) < (z : Int) := by omega
  obtain rfl : n = 16 := by omega
  clear h ho
  go_enter Tryd.func13, Tryd.ntmps13
  go_wp2_with fail
  (with_reducible refine HC.out.mono ?_)
  rintro e w1 ⟨rfl, rfl⟩
  go_wp2
  go_ret
  exact ⟨rfl, Below.refl _ _⟩
-- END1
theorem chg_on' {w w2 : World} (hb : Below w.heap.size w w2) (o : Obj) : Chg (fun _ => False) w (w2.alloc o) := (Chg.of_below hb _).alloc o
theorem own_on {w w2 : World} {p : Nat} {lo : Option Addr} {n cap : Nat} {l : List Nat} {F : List Nat} {o : Obj} (h : MapIs w p lo n cap l F) (hb : Below w.heap.size w w2) : Own (w2.alloc o) 1 lo n cap (l.map ci) :=
  h.own.keep (chg_on' hb o) (fun _ _ h => h)
theorem apart_on {w w2 : World} {p : Nat} {lo : Option Addr} {n cap : Nat} {l : List Nat} {F : List Nat} (h : MapIs w p lo n cap l F) (hb : Below w.heap.size w w2) : ∀ a, lo = some a → a.block ≠ w2.heap.size := by
  intro a ha
  have := (h.own.at_ a ha).2.1
  have := hb.size
  omega
theorem heap_on {w w2 w3 : World} {p : Nat} {lo xo : Option Addr} {n cap xc : Nat} {l : List Nat} {F : List Nat} {o : Obj} {cs : List Value} (h : MapIs w p lo n cap l F) (hb : Below w.heap.size w w2) (hi : InsPost lo n cs (w2.alloc o) w3 xo xc) : w3.heap[p]? = some (.cells #[.slice lo n cap] 55 (0, 0)) :=
  hi.2.1.heap ((chg_on' hb o).heap h.heap (fun h => h)) (fun ⟨a, ha, e⟩ => h.apart a ha e)
theorem one_len (z : Nat) : [ci z].length = 1 := rfl
theorem one_ci (z : Nat) : ∀ u ∈ [ci z], u.oneCell' = true := by
  intro u hu; rw [List.mem_singleton] at hu; subst hu; rfl
theorem arr_ci (z : Nat) : (#[Value.int .i64 (z : Int)] : Array Value).toList = [ci z] := rfl
theorem own_on2 {w w2 : World} {p : Nat} {lo : Option Addr} {n cap : Nat} {l : List Nat} {F : List Nat} (h : MapIs w p lo n cap l F) (hb : Below w.heap.size w w2) : Own w2 1 lo n cap (l.map ci) :=
  h.own.keep (Chg.of_below hb (fun _ => False)) (fun _ _ h => h)
theorem heap_on2 {w w2 w3 : World} {p : Nat} {lo xo : Option Addr} {n cap xc : Nat} {l : List Nat} {F : List Nat} {cs : List Value} (h : MapIs w p lo n cap l F) (hb : Below w.heap.size w w2) (hi : InsPost lo n cs w2 w3 xo xc) : w3.heap[p]? = some (.cells #[.slice lo n cap] 55 (0, 0)) :=
  hi.2.1.heap ((Chg.of_below hb (fun _ => False)).heap h.heap (fun h => h)) (fun ⟨a, ha, e⟩ => h.apart a ha e)
theorem heap_on0 {w w2 : World} {p : Nat} {lo : Option Addr} {n cap : Nat} {l : List Nat} {F : List Nat} (h : MapIs w p lo n cap l F) (hb : Below w.heap.size w w2) : w2.heap[p]? = some (.cells #[.slice lo n cap] 55 (0, 0)) :=
  (Chg.of_below hb (fun _ => False)).heap h.heap (fun h => h)
theorem split_end {w X w3 : World} {p : Nat} {lo xo : Option Addr} {n cap xc q z : Nat} {l : List Nat} {F : List Nat} (h : MapIs w p lo n cap l F) (hX : Chg (fun _ => False) w X) (hi : InsPost lo n ((l.map ci).take ((q + 1) * 1) ++ [ci z] ++ (l.map ci).drop ((q + 1) * 1)) X w3 xo xc)
    (hp : w3.heap[p]? = some (.cells #[.slice lo n cap] 55 (0, 0))) :
    ∃ F', MapAt (w3.setCell ⟨p, 0, none⟩ (.slice xo (n + 1) xc)) p (l.take (q + 1) ++ z :: l.drop (q + 1)) F' ∧ Chg (· ∈ F) w (w3.setCell ⟨p, 0, none⟩ (.slice xo (n + 1) xc)) ∧ ∀ k ∈ F', k ∈ F ∨ w.heap.size ≤ k := by
  have hpw : p < w.heap.size := heap_lt h.heap
  have hne : ∀ a, xo = some a → a.block ≠ p := fun a ha => by
    rcases hi.2.2 a ha with h1 | h1
    · exact h.apart a h1
    · have := hX.size; omega
  have hc := Chg.one w3 p 0 (.slice xo (n + 1) xc)
  refine ⟨p :: blk xo, ⟨xo, n + 1, xc, ⟨heap_set hp 0 _, ?_, hne, rfl⟩⟩, ?_, ?_⟩
  · have h1 := hi.1.keep hc (fun a ha e => hne a ha e)
    have e : (l.map ci).take ((q + 1) * 1) ++ [ci z] ++ (l.map ci).drop ((q + 1) * 1) = (l.take (q + 1) ++ z :: l.drop (q + 1)).map ci := by simp
    rw [e] at h1
    exact h1
  · refine (((hX.to (S' := (· ∈ F)) (fun _ h => h.elim)).trans hi.2.1 ?_).trans hc ?_)
    · rintro i _ ⟨a, ha, rfl⟩
      rw [h.foot]; exact List.mem_cons_of_mem _ (mem_blk.2 ⟨a, ha, rfl⟩)
    · rintro i _ rfl
      rw [h.foot]; exact List.mem_cons_self
  · intro k hk
    rcases List.mem_cons.1 hk with rfl | hk
    · exact .inl (by rw [h.foot]; exact List.mem_cons_self)
    · obtain ⟨a, ha, rfl⟩ := mem_blk.1 hk
      rcases hi.2.2 a ha with h1 | h1
      · exact .inl (by rw [h.foot]; exact List.mem_cons_of_mem _ (mem_blk.2 ⟨a, h1, rfl⟩))
      · exact .inr (Nat.le_trans hX.size h1)
theorem drew_size (w : World) : w.drew.heap.size = w.heap.size := rfl
-- BEGIN2
set_option maxHeartbeats 1000000 in
set_option maxRecDepth 100000 in
theorem split_go (p : Nat) (l : List Nat) (F : List Nat) (z : Nat) (w : World) (h : MapAt w p l F) (ho : Ok l) (hl : l.length < 16) (hz1 : 1 ≤ z) (hz : z < 65536) (hm : z ∉ l) :
    Calls Tryd.prog 13 #[.pointer (some ⟨p, 0, none⟩), .int .i64 (z : Int)] w fun e w' => e = .returned (.int .i64 0) ∧ ∃ q F', MapAt w' p (l.take (q + 1) ++ z :: l.drop (q + 1)) F' ∧ q < l.length ∧ (∀ k x, k ≤ q → l[k]? = some x → x ≤ z) ∧ (∀ k x, q < k → l[k]? = some x → z < x) ∧ Chg (· ∈ F) w w' ∧ ∀ k ∈ F', k ∈ F ∨ w.heap.size ≤ k := by
  have HM := Lib.hid h
  obtain ⟨lo, n, cap, h⟩ := h
  have hlen := h.len
  have hc : w.cell? ⟨p, 0, none⟩ = some (.slice lo n cap) := heap_cell h.heap 0
  have hcd : w.drew.cell? ⟨p, 0, none⟩ = some (.slice lo n cap) := heap_cell h.heap 0
  have HC := Lib.hid (contains_any lo n cap l z w h.own.row hlen (by omega))
  rw [decide_eq_false hm] at HC
  have hz0 : ¬ (z : Int) < 1 := by omega
  have hz1' : ¬ (65535 : Int) < (z : Int) := by omega
  have hn16 : ¬ (16 : Int) ≤ (n : Int) := by omega
  have HI := Lib.hid (And.intro h ho)
  have HMd := Lib.hid (HM.out.keep ((Chg.refl (fun _ => False) w).drew) (fun _ _ h => h))
  have hca := alloc_cell (o := (.cells #[.int .i64 (z : Int)] 3)) hc
  have hcad : (w.alloc (.cells #[.int .i64 (z : Int)] 3)).drew.cell? ⟨p, 0, none⟩ = some (.slice lo n cap) := hca
  have HMa := Lib.hid (HM.out.keep (((Chg.refl (fun _ => False) w).alloc (.cells #[.int .i64 (z : Int)] 3)).drew) (fun _ _ h => h))
  clear h ho
  go_enter Tryd.func13, Tryd.ntmps13
  go_wp2_with fail
  (with_reducible refine HC.out.mono ?_)
  rintro e w1 ⟨rfl, rfl⟩
  go_wp2
  go_region_with (first
    | (go_at_call 27; (with_reducible refine (place_any p l F z _ HMd.out HI.out.2).mono ?_); rintro e w2 ⟨q, rfl, hb2, hq, hlo, hhi⟩
       have hwq := IntWalk.i64_in ((q : Int) + 1) (by omega)
       have H2 := Lib.hid (And.intro (((Below.refl w.heap.size w).drew).trans hb2) (And.intro hq (And.intro hlo hhi)))
       have hc2 := heap_cell (heap_on0 HI.out.1 H2.out.1) 0
       have hc2a := alloc_cell (o := (.cells #[.int .i64 (z : Int)] 3)) hc2
       clear hb2 hlo hhi)
    | (go_at_call 27; (with_reducible refine (place_any p l F z _ HMa.out HI.out.2).mono ?_); rintro e w2 ⟨q, rfl, hb2, hq, hlo, hhi⟩
       have hwq := IntWalk.i64_in ((q : Int) + 1) (by omega)
       have hv2 := Lib.hid (((hb2.block w.heap.size (by rw [drew_size, size_alloc]; omega)).trans (heap_top w (.cells #[.int .i64 (z : Int)] 3))))
       have H2 := Lib.hid (And.intro ((((Below.refl w.heap.size w).alloc (Nat.le_refl _) _).drew).trans (hb2.mono (by rw [drew_size, size_alloc]; omega))) (And.intro hq (And.intro hlo hhi)))
       have hc2 := heap_cell (heap_on0 HI.out.1 H2.out.1) 0
       clear hb2 hlo hhi)
    | (go_at_call 26; (with_reducible refine (insert_any lo n cap _ (q + 1) (l.map ci) [ci z] w.heap.size #[.int .i64 (z : Int)] 3 w2 (own_on2 HI.out.1 H2.out.1) (by push_cast; rfl) (by omega) (by omega) (ci_one l) (one_len z) (one_ci z) hv2.out (arr_ci z) (apart_on HI.out.1 (Below.refl _ _))).mono ?_)
       rintro e w3 ⟨xo, xc, rfl, hin⟩
       have hp3 := heap_on2 HI.out.1 H2.out.1 hin
       obtain ⟨f0, f1⟩ := cells1 hp3
       have H3 := Lib.hid (And.intro hin hp3)
       clear hin hp3)
    | (go_at_call 26
       go_loud ((with_reducible refine (insert_any lo n cap _ (q + 1) (l.map ci) [ci z] w2.heap.size #[.int .i64 (z : Int)] 3 _ (own_on HI.out.1 H2.out.1) (by push_cast; rfl) (by omega) (by omega) (ci_one l) (one_len z) (one_ci z) (heap_top w2 _) (arr_ci z) (apart_on HI.out.1 H2.out.1)).mono ?_))
       rintro e w3 ⟨xo, xc, rfl, hin⟩
       have hp3 := heap_on HI.out.1 H2.out.1 hin
       obtain ⟨f0, f1⟩ := cells1 hp3
       have H3 := Lib.hid (And.intro hin hp3)
       clear hin hp3))
  all_goals go_wp2
  all_goals (
    go_ret
    obtain ⟨F', e1, e2, e3⟩ := split_end HI.out.1 (by first | exact chg_on' H2.out.1 _ | exact Chg.of_below H2.out.1 _) H3.out.1 H3.out.2
    exact ⟨rfl, q, F', e1, H2.out.2.1, H2.out.2.2.1, H2.out.2.2.2, e2, e3⟩)
-- END2
end Go.Proofs.YtibigfglhpdjmaaDoor
