/-
  LAYER 16: the document's Map.
-/
import Derived.Test.YtibigfglhpdjmaaDoorBunK
namespace Go.Proofs.YtibigfglhpdjmaaDoor
open Go Go.RowKit

def zMap : Array Value := Array.replicate 65536 (.bool false)
set_option maxRecDepth 1000000 in
theorem zeroMap (w : World) : Sem.run Tryd.prog (zeroValue 47) w = .ok (.agg zMap) w := by kernel_rfl
/-- The document's Map: at each place whether a bundle begins there. -/
def DocAt (w : World) (q : Nat) (l : List Nat) : Prop := ∃ cs : Array Value, w.heap[q]? = some (.cells cs 47 (0, 0)) ∧ cs.size = 65536 ∧ ∀ i, i < 65536 → cs[i]? = some (.bool (decide (i ∈ l)))
theorem DocAt.keep {w w' : World} {q : Nat} {l : List Nat} (h : DocAt w q l) {S : Nat → Prop} (hc : Chg S w w') (hS : ¬ S q) : DocAt w' q l := by
  obtain ⟨cs, h1, h2⟩ := h; exact ⟨cs, hc.heap h1 hS, h2⟩
theorem DocAt.stays {w w' : World} {q : Nat} {l : List Nat} (h : DocAt w q l) (hb : Below w.heap.size w w') : DocAt w' q l := h.keep (Chg.of_below hb (fun _ => False)) (fun h => h)
theorem DocAt.cell {w : World} {q : Nat} {l : List Nat} (h : DocAt w q l) {i : Nat} (hi : i < 65536) : w.cell? ⟨q, i, none⟩ = some (.bool (decide (i ∈ l))) := by
  obtain ⟨cs, h1, _, h3⟩ := h; rw [heap_cell h1]; exact h3 i hi
theorem DocAt.frozen {w : World} {q : Nat} {l : List Nat} (h : DocAt w q l) (i : Nat) : w.frozen? ⟨q, i, none⟩ = false := by
  obtain ⟨cs, h1, _⟩ := h; exact heap_frozen h1 i
theorem DocAt.lt {w : World} {q : Nat} {l : List Nat} (h : DocAt w q l) : q < w.heap.size := by
  obtain ⟨cs, h1, _⟩ := h; exact heap_lt h1
theorem DocAt.set {w : World} {q : Nat} {l l' : List Nat} (h : DocAt w q l) (z : Nat) (hz : z < 65536) (b : Bool) (hb : b = decide (z ∈ l')) (ho : ∀ i, i ≠ z → (i ∈ l' ↔ i ∈ l)) : DocAt (w.setCell ⟨q, z, none⟩ (.bool b)) q l' := by
  obtain ⟨cs, h1, h2, h3⟩ := h
  refine ⟨_, heap_set h1 z _, by simp [h2], fun i hi => ?_⟩
  rw [Array.getElem?_setIfInBounds]
  by_cases hiz : z = i
  · subst hiz
    rw [if_pos rfl, if_pos (by omega), hb]
  · rw [if_neg hiz, h3 i hi]
    have := ho i (fun e => hiz e.symm)
    simp only [this]
theorem DocAt.zero (w : World) : DocAt (w.alloc (.cells zMap 47)) w.heap.size [] :=
  ⟨zMap, heap_top _ _, by simp [zMap], fun i hi => by simp [zMap, hi]⟩
theorem rsplit_out (q : Nat) (z : Int) (w : World) (h : z < 1 ∨ 65535 < z) : Calls Tryd.prog 19 #[.pointer (some ⟨q, 0, none⟩), .int .i64 z] w fun e w' => e = .returned (.int .i64 2) ∧ Below w.heap.size w w' := by
  rcases h with h | h
  · go_enter Tryd.func19, Tryd.ntmps19
    go_wp2
    go_ret
    exact ⟨rfl, Below.refl _ _⟩
  · have h2 : ¬ z < 1 := by omega
    go_enter Tryd.func19, Tryd.ntmps19
    go_wp2
    go_ret
    exact ⟨rfl, Below.refl _ _⟩
theorem rjoin_out (q : Nat) (z : Int) (w : World) (h : z < 1 ∨ 65535 < z) : Calls Tryd.prog 18 #[.pointer (some ⟨q, 0, none⟩), .int .i64 z] w fun e w' => e = .returned (.int .i64 2) ∧ Below w.heap.size w w' := by
  rcases h with h | h
  · go_enter Tryd.func18, Tryd.ntmps18
    go_wp2
    go_ret
    exact ⟨rfl, Below.refl _ _⟩
  · have h2 : ¬ z < 1 := by omega
    go_enter Tryd.func18, Tryd.ntmps18
    go_wp2
    go_ret
    exact ⟨rfl, Below.refl _ _⟩
-- BEGIN1
theorem rjoin_none (q : Nat) (l : List Nat) (z : Nat) (w : World) (h : DocAt w q l) (hz1 : 1 ≤ z) (hz : z < 65536) (hm : z ∉ l) : Calls Tryd.prog 18 #[.pointer (some ⟨q, 0, none⟩), .int .i64 (z : Int)] w fun e w' => e = .returned (.int .i64 11) ∧ Below w.heap.size w w' := by
  have hc := h.cell hz
  rw [decide_eq_false hm] at hc
  have hz0 : ¬ (z : Int) < 1 := by omega
  have hz1 : ¬ (65535 : Int) < (z : Int) := by omega
  have hz2 : (z : Int) < 65536 := by omega
  have hz3 : (0 : Int) ≤ (z : Int) := by omega
  clear h
  go_enter Tryd.func18, Tryd.ntmps18
  go_wp2
  go_ret
  exact ⟨rfl, Below.refl _ _⟩
theorem rjoin_go (q : Nat) (l : List Nat) (z : Nat) (w : World) (h : DocAt w q l) (hz1 : 1 ≤ z) (hz : z < 65536) (hm : z ∈ l) : Calls Tryd.prog 18 #[.pointer (some ⟨q, 0, none⟩), .int .i64 (z : Int)] w fun e w' => e = .returned (.int .i64 0) ∧ DocAt w' q (without l z) ∧ Chg (· = q) w w' := by
  have hc := h.cell hz
  rw [decide_eq_true hm] at hc
  have hf := h.frozen z
  have hz0 : ¬ (z : Int) < 1 := by omega
  have hz1 : ¬ (65535 : Int) < (z : Int) := by omega
  have hz2 : (z : Int) < 65536 := by omega
  have hz3 : (0 : Int) ≤ (z : Int) := by omega
  have HD := Lib.hid (h.set (l' := without l z) z hz false (by simp [without]) (fun i hi => by rw [without_mem]; exact ⟨fun h => h.1, fun h => ⟨h, hi⟩⟩))
  have HC := Lib.hid (Chg.one w q z (.bool false))
  clear h
  go_enter Tryd.func18, Tryd.ntmps18
  go_wp2
  go_ret
  exact ⟨rfl, HD.out, HC.out⟩
theorem rsplit_has (q : Nat) (l : List Nat) (z : Nat) (w : World) (h : DocAt w q l) (hz1 : 1 ≤ z) (hz : z < 65536) (hm : z ∈ l) : Calls Tryd.prog 19 #[.pointer (some ⟨q, 0, none⟩), .int .i64 (z : Int)] w fun e w' => e = .returned (.int .i64 12) ∧ Below w.heap.size w w' := by
  have hc := h.cell hz
  rw [decide_eq_true hm] at hc
  have hz0 : ¬ (z : Int) < 1 := by omega
  have hz1 : ¬ (65535 : Int) < (z : Int) := by omega
  have hz2 : (z : Int) < 65536 := by omega
  have hz3 : (0 : Int) ≤ (z : Int) := by omega
  clear h
  go_enter Tryd.func19, Tryd.ntmps19
  go_wp2
  go_ret
  exact ⟨rfl, Below.refl _ _⟩
-- END1
def upTo (l : List Nat) (i : Nat) : List Nat := l.filter (fun x => decide (x < i))
theorem upTo_yes {l : List Nat} {i : Nat} (hs : Inc l) (h : i ∈ l) : upTo l (i + 1) = upTo l i ++ [i] := by
  induction l with
  | nil => cases h
  | cons a l ih =>
    obtain ⟨h1, h2⟩ := List.pairwise_cons.1 hs
    rcases List.mem_cons.1 h with rfl | h
    · have e : ∀ j, j ≤ i + 1 → l.filter (fun x => decide (x < j)) = [] := fun j hj => List.filter_eq_nil_iff.2 (fun x hx => by have := h1 x hx; simp; omega)
      rw [upTo, upTo, List.filter_cons, List.filter_cons, e _ (Nat.le_refl _), e _ (Nat.le_succ _)]
      simp
    · have ha := h1 i h
      have := ih h2 h
      rw [upTo, upTo] at this
      rw [upTo, upTo, List.filter_cons, List.filter_cons, this]
      have e1 : decide (a < i + 1) = true := by simp; omega
      have e2 : decide (a < i) = true := by simp; omega
      rw [e1, e2]; rfl
theorem upTo_no {l : List Nat} {i : Nat} (h : i ∉ l) : upTo l (i + 1) = upTo l i := by
  refine List.filter_congr fun x hx => ?_
  have : x ≠ i := fun e => h (by rw [← e]; exact hx)
  simp; omega
theorem upTo_all {l : List Nat} (h : ∀ x ∈ l, x < 65536) : upTo l 65536 = l := List.filter_eq_self.2 (fun x hx => by simpa using h x hx)
-- BEGIN2
set_option maxHeartbeats 1000000 in
set_option maxRecDepth 100000 in
theorem rall_any (q : Nat) (l : List Nat) (w : World) (h : DocAt w q l) (ho : Ok l) : Calls Tryd.prog 21 #[.pointer (some ⟨q, 0, none⟩)] w fun e w' => ∃ xo xc, e = .returned (.slice xo l.length xc) ∧ Below w.heap.size w w' ∧ Own w' 1 xo l.length xc (l.map ci) := by
  have HD := Lib.hid (And.intro h ho)
  clear h ho
  go_enter Tryd.func21, Tryd.ntmps21
  go_wp2
  go_loopg [3, 4] 65536 (fun g ov iv wr => ∃ (i : Nat) (oo : Option Addr) (on oc : Nat), g + i = 65536 ∧ ov = .slice oo on oc ∧ iv = .int .i64 (i : Int) ∧ Own wr 1 oo on oc ((upTo l i).map ci) ∧ Below w.heap.size w wr ∧ (∀ a, oo = some a → w.heap.size ≤ a.block))
  case atStart => exact ⟨0, none, 0, 0, rfl, rfl, rfl, by rw [show upTo l 0 = [] by simp [upTo]]; exact Own.nil' _ _, Below.refl _ _, fun a ha => by cases ha⟩
  case round =>
    obtain ⟨i, oo, on, oc, hgi, rfl, rfl, hown, hb, hnew⟩ := hrel
    have hon : (upTo l i).length = on := by have := hown.len; simpa using this
    have hon16 : on ≤ 16 := by rw [← hon]; exact Nat.le_trans (List.length_filter_le _ _) HD.out.2.len
    by_cases hi : i < 65536
    · have hc := (HD.out.1.stays hb).cell hi
      have hiI : (i : Int) < 65536 := by omega
      have hi0 : (0 : Int) ≤ (i : Int) := by omega
      by_cases hm : i ∈ l
      · rw [decide_eq_true hm] at hc
        have HO := Lib.hid (And.intro (hown.keep ((Chg.refl (fun _ => False) wr).alloc (.cells #[.int .i64 (i : Int)] 3)) (fun _ _ h => h)) (And.intro (show Row (wr.alloc (.cells #[.int .i64 (i : Int)] 3)) (some ⟨wr.heap.size, 0, none⟩) [ci i] from Row.alloc wr #[.int .i64 (i : Int)] 3 (0, 0)) (And.intro (hb.alloc hb.size (.cells #[.int .i64 (i : Int)] 3)) hnew)))
        have HU := Lib.hid (upTo_yes HD.out.2.inc hm)
        clear hown hb hnew
        as_aux_lemma =>
          go_wp2_with (at_builtin; refine wpList_append' rfl (.tmp 15) (.tmp 17) el_i rfl rfl rfl HO.out.1 (m := 1) rfl HO.out.2.1 (one_ci i) (by unfold maxLen; omega) (by omega) ?_; intro xo xc w2 hx hch _ hx2; have H2 := Lib.hid (And.intro hx (And.intro hch hx2)); clear hx hch hx2)
          go_roundg (gk - 1)
          case measure => omega
          case rel =>
            have hsz : w.heap.size ≤ (wr.alloc (.cells #[.int .i64 (i : Int)] 3)).heap.size := HO.out.2.2.1.size
            refine ⟨i + 1, xo, on + 1, xc, by omega, rfl, by go_num, ?_, chg_on HO.out.2.2.1 H2.out.2.1 hsz HO.out.2.2.2, fun a ha => ?_⟩
            · rw [HU.out, List.map_append]; exact H2.out.1
            · rcases H2.out.2.2 a ha with h | h
              · exact HO.out.2.2.2 a h
              · exact Nat.le_trans hsz h
      · rw [decide_eq_false hm] at hc
        have HO := Lib.hid (And.intro hown (And.intro hb hnew))
        have HU := Lib.hid (upTo_no hm)
        clear hown hb hnew
        as_aux_lemma =>
          go_wp2
          go_roundg (gk - 1)
          case measure => omega
          case rel => exact ⟨i + 1, oo, on, oc, by omega, rfl, by go_num, by rw [HU.out]; exact HO.out.1, HO.out.2⟩
    · obtain rfl : i = 65536 := by omega
      rw [upTo_all HD.out.2.top] at hown hon
      have HO := Lib.hid (And.intro hown hb)
      clear hown hb hnew
      subst hon
      as_aux_lemma =>
        go_wp2
        go_ret
        exact ⟨oo, oc, rfl, HO.out.2, HO.out.1⟩
-- END2
-- BEGIN3
theorem rsplit_full (q : Nat) (l : List Nat) (z : Nat) (w : World) (h : DocAt w q l) (ho : Ok l) (hz1 : 1 ≤ z) (hz : z < 65536) (hm : z ∉ l) (hl : l.length = 16) : Calls Tryd.prog 19 #[.pointer (some ⟨q, 0, none⟩), .int .i64 (z : Int)] w fun e w' => e = .returned (.int .i64 14) ∧ Below w.heap.size w w' := by
  have hc := h.cell hz
  rw [decide_eq_false hm] at hc
  have HA := Lib.hid (rall_any q l w h ho)
  rw [hl] at HA
  have hz0 : ¬ (z : Int) < 1 := by omega
  have hz1 : ¬ (65535 : Int) < (z : Int) := by omega
  have hz2 : (z : Int) < 65536 := by omega
  have hz3 : (0 : Int) ≤ (z : Int) := by omega
  clear h
  go_enter Tryd.func19, Tryd.ntmps19
  go_wp2_with fail
  (with_reducible refine HA.out.mono ?_)
  rintro e w1 ⟨xo, xc, rfl, hb, _⟩
  have HB := Lib.hid hb
  clear hb
  go_wp2
  go_ret
  exact ⟨rfl, HB.out⟩
theorem rsplit_go (q : Nat) (l l' : List Nat) (z : Nat) (w : World) (h : DocAt w q l) (ho : Ok l) (hz1 : 1 ≤ z) (hz : z < 65536) (hm : z ∉ l) (hl : l.length < 16) (hl' : ∀ x, x ∈ l' ↔ x = z ∨ x ∈ l) : Calls Tryd.prog 19 #[.pointer (some ⟨q, 0, none⟩), .int .i64 (z : Int)] w fun e w' => e = .returned (.int .i64 0) ∧ DocAt w' q l' ∧ Chg (· = q) w w' := by
  have hc := h.cell hz
  rw [decide_eq_false hm] at hc
  have HA := Lib.hid (rall_any q l w h ho)
  have HD := Lib.hid h
  have hz0 : ¬ (z : Int) < 1 := by omega
  have hz1 : ¬ (65535 : Int) < (z : Int) := by omega
  have hz2 : (z : Int) < 65536 := by omega
  have hz3 : (0 : Int) ≤ (z : Int) := by omega
  have hl16 : ((l.length : Int) == 16) = false := beq_eq_false_iff_ne.2 (by omega)
  have hl17 : ¬ (l.length : Int) = 16 := by omega
  clear h
  go_enter Tryd.func19, Tryd.ntmps19
  go_wp2_with fail
  (with_reducible refine HA.out.mono ?_)
  rintro e w1 ⟨xo, xc, rfl, hb, _⟩
  have hd := HD.out.stays hb
  have hc1 := hd.cell hz
  have hf1 := hd.frozen z
  have H1 := Lib.hid (hd.set (l' := l') z hz true (by simp [hl']) (fun i hi => by rw [hl']; exact ⟨fun h => h.resolve_left hi, .inr⟩))
  have HC := Lib.hid (((Chg.of_below hb (· = q)).trans (Chg.one w1 q z (.bool true)) (fun _ _ h => h)))
  clear hb hd
  go_wp2
  go_ret
  exact ⟨rfl, H1.out, HC.out⟩
-- END3
theorem rof_out (q : Nat) (z : Int) (w : World) (h : z < 0 ∨ 65535 < z) : Calls Tryd.prog 22 #[.pointer (some ⟨q, 0, none⟩), .int .i64 z] w fun e w' => e = .returned (.tuple #[.int .i64 0, .int .i64 0, .bool false]) ∧ Below w.heap.size w w' := by
  rcases h with h | h
  · go_enter Tryd.func22, Tryd.ntmps22
    go_wp2
    go_ret3
    exact ⟨rfl, Below.refl _ _⟩
  · have h2 : ¬ z < 0 := by omega
    go_enter Tryd.func22, Tryd.ntmps22
    go_wp2
    go_ret3
    exact ⟨rfl, Below.refl _ _⟩
theorem of_mem {l : List Nat} {z a b : Nat} (ho : Ok l) (h : OfP l z a b) (hz : z < 65536) : a ≤ z ∧ a ∈ l ∧ z < b ∧ b ≤ 65536 ∧ (∀ x, a < x → x < b → x ∉ l) ∧ (b < 65536 → b ∈ l) := by
  obtain ⟨q, h1, h2, h3, h4⟩ := h
  have hzb : z < b := by
    rcases h2 with h2 | ⟨_, rfl⟩
    · exact h4 _ b (by omega) h2
    · exact hz
  refine ⟨h3 q a (Nat.le_refl _) h1, List.mem_of_getElem? h1, hzb, ?_, ?_, ?_⟩
  · rcases h2 with h2 | ⟨_, rfl⟩
    · exact Nat.le_of_lt (ho.top b (List.mem_of_getElem? h2))
    · exact Nat.le_refl _
  · intro x hax hxb hx
    obtain ⟨k, hk⟩ := List.mem_iff_getElem?.1 hx
    rcases Nat.lt_or_ge q k with h5 | h5
    · rcases h2 with h2 | ⟨h2, rfl⟩
      · have := ho.inc.le (q + 1) k b x (by omega) h2 hk; omega
      · have := (List.getElem?_eq_some_iff.1 hk).1; omega
    · have := ho.inc.le k q x a h5 hk h1; omega
  · intro hb
    rcases h2 with h2 | ⟨_, rfl⟩
    · exact List.mem_of_getElem? h2
    · omega
-- BEGIN4
set_option maxHeartbeats 1000000 in
set_option maxRecDepth 100000 in
theorem rof_any (q : Nat) (l : List Nat) (z a b : Nat) (w : World) (h : DocAt w q l) (ho : Ok l) (hz : z < 65536) (hof : OfP l z a b) : Calls Tryd.prog 22 #[.pointer (some ⟨q, 0, none⟩), .int .i64 (z : Int)] w fun e w' => e = .returned (.tuple #[.int .i64 (a : Int), .int .i64 (b : Int), .bool true]) ∧ Below w.heap.size w w' := by
  obtain ⟨haz, hal, hzb, hb6, hno, hbl⟩ := of_mem ho hof hz
  have hz0 : ¬ (z : Int) < 0 := by omega
  have hz1 : ¬ (65535 : Int) < (z : Int) := by omega
  have HD := Lib.hid (And.intro h (And.intro hno (And.intro hal hbl)))
  clear h hof hno hal hbl
  have hzw := IntWalk.i64_in ((z : Int) + 1) (by omega)
  go_enter Tryd.func22, Tryd.ntmps22
  go_wp2
  go_loopg [7] z (fun g v wr => wr = w ∧ ∃ k : Nat, g = k ∧ v = .int .i64 (k : Int) ∧ a ≤ k ∧ k ≤ z)
  case atStart => exact ⟨rfl, z, rfl, rfl, haz, Nat.le_refl _⟩
  case round =>
    obtain ⟨rfl, k, rfl, rfl, hak, hkz⟩ := hrel
    have hc := HD.out.1.cell (i := gk) (by omega)
    have hk1 : (gk : Int) < 65536 := by omega
    have hk0 : (0 : Int) ≤ (gk : Int) := by omega
    by_cases hka : a = gk
    · subst hka
      rw [decide_eq_true HD.out.2.2.1] at hc
      go_wp2
      go_loopg [8] (65535 - z) (fun g v wx => wx = wr ∧ ∃ k : Nat, g + k = 65536 ∧ v = .int .i64 (k : Int) ∧ z < k ∧ k ≤ b)
      case atStart => exact ⟨rfl, z + 1, by omega, by go_num, by omega, by omega⟩
      case round =>
        obtain ⟨rfl, k, hgk, rfl, hzk, hkb⟩ := hrel
        by_cases hkb2 : k = b
        · by_cases hb2 : b < 65536
          · subst hkb2
            have hc2 := HD.out.1.cell (i := k) hb2
            rw [decide_eq_true (HD.out.2.2.2 hb2)] at hc2
            have i1 : (k : Int) < 65536 := by omega
            have i0 : (0 : Int) ≤ (k : Int) := by omega
            go_wp2
            go_ret3
            exact ⟨rfl, Below.refl _ _⟩
          · subst hkb2
            have i1 : ¬ (k : Int) < 65536 := by omega
            go_wp2
            go_ret3
            exact ⟨rfl, Below.refl _ _⟩
        · have hc2 := HD.out.1.cell (i := k) (by omega)
          rw [decide_eq_false (HD.out.2.1 k (by omega) (by omega))] at hc2
          have i1 : (k : Int) < 65536 := by omega
          have i0 : (0 : Int) ≤ (k : Int) := by omega
          have i2 := IntWalk.i64_in ((k : Int) + 1) (by omega)
          go_wp2
          go_roundg (gk - 1)
          case measure => omega
          case rel => exact ⟨rfl, k + 1, by omega, by go_num, by omega, by omega⟩
    · rw [decide_eq_false (HD.out.2.1 gk (by omega) (by omega))] at hc
      obtain ⟨k', rfl⟩ : ∃ k', gk = k' + 1 := ⟨gk - 1, by omega⟩
      go_wp2
      go_roundg k'
      case measure => omega
      case rel => exact ⟨rfl, k', rfl, by go_num, by omega, by omega⟩
-- END4
end Go.Proofs.YtibigfglhpdjmaaDoor
