/-
  slices.DeleteFunc of ints, by the closure of Join.
-/
import Derived.Test.YtibigfglhpdjmaaDoorBunG
namespace Go.Proofs.YtibigfglhpdjmaaDoor
open Go Go.RowKit

theorem join1_any (x z B : Nat) (w : World) (h : w.cell? ⟨B, 0, none⟩ = some (.int .i64 (z : Int))) : Calls Tryd.prog 30 #[.int .i64 (x : Int), .pointer (some ⟨B, 0, none⟩)] w fun e w' => e = .returned (.bool (decide (x = z))) ∧ w = w' := by
  by_cases hx : x = z
  · subst hx
    go_enter Tryd.func30, Tryd.ntmps30
    go_wp2
    go_ret
    exact ⟨congrArg (fun b => Ending.returned (Value.bool b)) (by simp), rfl⟩
  · have hn : ((x : Int) == (z : Int)) = false := beq_eq_false_iff_ne.2 (by omega)
    go_enter Tryd.func30, Tryd.ntmps30
    go_wp2
    go_ret
    exact ⟨congrArg (fun b => Ending.returned (Value.bool b)) (by simp [hx]), rfl⟩
theorem join1_yes (x z B : Nat) (w : World) (h : w.cell? ⟨B, 0, none⟩ = some (.int .i64 (z : Int))) (hx : x = z) : Calls Tryd.prog 30 #[.int .i64 (x : Int), .pointer (some ⟨B, 0, none⟩)] w fun e w' => e = .returned (.bool true) ∧ w = w' := by
  have := join1_any x z B w h; simpa [hx] using this
theorem join1_no (x z B : Nat) (w : World) (h : w.cell? ⟨B, 0, none⟩ = some (.int .i64 (z : Int))) (hx : ¬ x = z) : Calls Tryd.prog 30 #[.int .i64 (x : Int), .pointer (some ⟨B, 0, none⟩)] w fun e w' => e = .returned (.bool false) ∧ w = w' := by
  have := join1_any x z B w h; simpa [hx] using this
theorem enter30 (args : Array Value) (w : World) : (callFunc 30 args).run Tryd.prog w = .ok (.enter 30 args) w := rfl
-- BEGIN1
theorem indexf_any (lo : Option Addr) (n cap : Nat) (l : List Nat) (i z B : Nat) (w : World) (hr : Row w lo (l.map ci)) (hn : l.length = n) (hm : n ≤ 1000000) (hc : w.cell? ⟨B, 0, none⟩ = some (.int .i64 (z : Int))) (hi : l[i]? = some z) (hno : ∀ x ∈ l.take i, x ≠ z) :
    Calls Tryd.prog 37 #[.slice lo n cap, .func (.func 30) #[] #[.pointer (some ⟨B, 0, none⟩)]] w fun e w' => e = .returned (.int .i64 (i : Int)) ∧ w = w' := by
  have hcf := enter30
  have HR := Lib.hid (And.intro hr (And.intro hn (And.intro hi (And.intro hno hc))))
  have hin : i < n := by have := (List.getElem?_eq_some_iff.1 hi).1; omega
  clear hr hn hi hno
  go_enter Tryd.func37, Tryd.ntmps37
  go_wp2
  go_loopg [8] n (fun g v wr => wr = w ∧ ∃ k : Nat, g + k = n ∧ v = .int .i64 k ∧ k ≤ i)
  case atStart => exact ⟨rfl, 0, rfl, rfl, Nat.zero_le _⟩
  case round =>
    obtain ⟨rfl, k, hk, rfl, hki⟩ := hrel
    obtain ⟨x, hx⟩ : ∃ x, l[k]? = some x := ⟨_, List.getElem?_eq_getElem (by rw [HR.out.2.1]; omega)⟩
    obtain ⟨b, off, rfl, hcx⟩ := row_ci HR.out.1 hx
    have hltI : (k : Int) < (n : Int) := by omega
    have h0I : (0 : Int) ≤ (k : Int) := by omega
    rcases Nat.lt_or_ge k i with hk2 | hk2
    · have hxz : ¬ x = z := HR.out.2.2.2.1 x (List.mem_of_getElem? (i := k) (by rw [List.getElem?_take_of_lt hk2]; exact hx))
      clear hx
      as_aux_lemma =>
        go_wp2_with ((with_reducible refine (join1_no x z B _ HR.out.2.2.2.2 hxz).mono ?_); rintro r w1 ⟨rfl, rfl⟩)
        go_roundg (gk - 1)
        case measure => omega
        case rel => exact ⟨rfl, k + 1, by omega, by go_num, by omega⟩
    · obtain rfl : k = i := by omega
      obtain rfl : x = z := by have := HR.out.2.2.1.symm.trans hx; cases this; rfl
      clear hx
      as_aux_lemma =>
        go_wp2_with ((with_reducible refine (join1_yes x x B _ HR.out.2.2.2.2 rfl).mono ?_); rintro r w1 ⟨rfl, rfl⟩)
        go_ret
        exact ⟨rfl, rfl⟩
-- END1
theorem zero_one' : ∀ u ∈ (.int .i64 0 : Value).cells.toList, u.oneCell' = true := by
  intro u hu; simp [Value.cells] at hu; subst hu; rfl
def without (l : List Nat) (z : Nat) : List Nat := l.filter (fun x => decide (x ≠ z))
-- BEGIN2
set_option maxHeartbeats 2000000 in
set_option maxRecDepth 100000 in
theorem delfunc_any (lo : Option Addr) (n cap : Nat) (l : List Nat) (i0 z B : Nat) (w : World) (ho : Own w 1 lo n cap (l.map ci)) (hn : l.length = n) (hm : n ≤ 1000000) (hc : w.cell? ⟨B, 0, none⟩ = some (.int .i64 (z : Int))) (hB : ∀ a, lo = some a → a.block ≠ B) (hi : l[i0]? = some z) (hno : ∀ x ∈ l.take i0, x ≠ z) :
    Calls Tryd.prog 29 #[.slice lo n cap, .func (.func 30) #[] #[.pointer (some ⟨B, 0, none⟩)]] w fun e w' => ∃ k, e = .returned (.slice lo k cap) ∧ Own w' 1 lo k cap ((without l z).map ci) ∧ Chg (fun k => ∃ a, lo = some a ∧ a.block = k) w w' := by
  have hcf := enter30
  have HI := Lib.hid (indexf_any lo n cap l i0 z B w ho.row hn hm hc hi hno)
  have hin : i0 < n := by have := (List.getElem?_eq_some_iff.1 hi).1; omega
  obtain ⟨b, off, rfl, _⟩ := row_ci ho.row hi
  have hbB : b ≠ B := hB _ rfl
  have hcap := ho.le
  have e0 : l.take i0 = (l.take (i0 + 1)).filter (fun x => decide (x ≠ z)) := by
    have e1 : l.take (i0 + 1) = l.take i0 ++ [z] := by
      obtain ⟨h1, h2⟩ := List.getElem?_eq_some_iff.1 hi
      rw [List.take_succ_eq_append_getElem h1, h2]
    rw [e1, List.filter_append, List.filter_eq_self.2 (fun a ha => by simpa using hno a ha)]
    simp
  have HH := Lib.hid (And.intro ho (And.intro hn (And.intro e0 hc)))
  clear ho hn hi hno e0 hc hB
  go_enter Tryd.func29, Tryd.ntmps29
  go_wp2_with (go_at_call 37; (with_reducible refine HI.out.mono ?_); rintro r w1 ⟨rfl, rfl⟩)
  go_loopg [5, 6] (n - (i0 + 1)) (fun g vi vj wr => ∃ (i j : Nat) (xs : List Nat), g + j = n ∧ vi = .int .i64 i ∧ vj = .int .i64 j ∧ i < j ∧ Own wr 1 (some ⟨b, off, none⟩) n cap (xs.map ci) ∧ xs.take i = (l.take j).filter (fun x => decide (x ≠ z)) ∧ xs.drop j = l.drop j ∧ Chg (fun k => k = b) w wr)
  case atStart => exact ⟨i0, i0 + 1, l, by omega, rfl, by go_num, by omega, HH.out.1, HH.out.2.2.1, rfl, Chg.refl _ _⟩
  case round =>
    obtain ⟨i, j, xs, hgj, rfl, rfl, hij, hown, htake, hdrop, hch⟩ := hrel
    have hxl : xs.length = n := by have := hown.len; simpa using this
    by_cases hj : j < n
    · obtain ⟨x, hx⟩ : ∃ x, l[j]? = some x := ⟨_, List.getElem?_eq_getElem (by rw [HH.out.2.1]; exact hj)⟩
      have hxe : xs[j]? = some x := by
        have h1 : (xs.drop j)[0]? = (l.drop j)[0]? := by rw [hdrop]
        rw [List.getElem?_drop, List.getElem?_drop] at h1
        simpa [hx] using h1
      obtain ⟨y, hy⟩ : ∃ y, xs[i]? = some y := ⟨_, List.getElem?_eq_getElem (by omega)⟩
      obtain ⟨b', off', hlo, hcx⟩ := row_ci hown.row hxe
      cases hlo
      obtain ⟨_, _, hlo, hcy⟩ := row_ci hown.row hy
      cases hlo
      have hfy : wr.frozen? ⟨b, off + i, none⟩ = false := by
        obtain ⟨_, _, hcp, _⟩ := hown.at_ _ rfl
        exact (hcp i (by omega)).2
      have hcB := hch.cell HH.out.2.2.2 (fun e => hbB e.symm)
      have hjI : (j : Int) < (n : Int) := by omega
      have hj0 : (0 : Int) ≤ (j : Int) := by omega
      have hiI : (i : Int) < (n : Int) := by omega
      have hi0 : (0 : Int) ≤ (i : Int) := by omega
      have e1 : l.take (j + 1) = l.take j ++ [x] := by
        obtain ⟨h1, h2⟩ := List.getElem?_eq_some_iff.1 hx
        rw [List.take_succ_eq_append_getElem h1, h2]
      have HS := Lib.hid (And.intro hown (And.intro htake (And.intro hdrop (And.intro hch (And.intro e1 (And.intro hxl hcB))))))
      clear hown htake hdrop hch hx hxe hy e1 hxl hcB
      by_cases hxz : x = z
      · subst hxz
        as_aux_lemma =>
          go_wp2_with ((with_reducible refine (join1_yes x x B _ HS.out.2.2.2.2.2.2 rfl).mono ?_); rintro r w1 ⟨rfl, rfl⟩)
          go_roundg (gk - 1)
          case measure => omega
          case rel => exact ⟨i, j + 1, xs, by omega, rfl, by go_num, by omega, HS.out.1, by rw [HS.out.2.2.2.2.1, List.filter_append, HS.out.2.1]; simp, by rw [← List.drop_drop, HS.out.2.2.1, List.drop_drop], HS.out.2.2.2.1⟩
      · as_aux_lemma =>
          go_wp2_with ((with_reducible refine (join1_no x z B _ HS.out.2.2.2.2.2.2 hxz).mono ?_); rintro r w1 ⟨rfl, rfl⟩)
          go_roundg (gk - 1)
          case measure => omega
          case rel =>
            obtain ⟨hown, htake, hdrop, hch, e1, hxl, _⟩ := HS.out
            have hset := hown.set i (ci x) (by omega)
            refine ⟨i + 1, j + 1, xs.set i x, by omega, by go_num, by go_num, by omega, ?_, ?_, ?_, hch.set rfl _ _⟩
            · rw [List.map_set]; exact hset
            · rw [e1, List.filter_append, ← htake, List.take_succ_eq_append_getElem (by rw [List.length_set]; omega), List.getElem_set_self, List.take_set_of_le (Nat.le_refl _)]
              simp [hxz]
            · rw [List.drop_set_of_lt (by omega), ← List.drop_drop, hdrop, List.drop_drop]
    · have e1 : l.take j = l := List.take_of_length_le (by rw [HH.out.2.1]; omega)
      rw [e1] at htake
      have hin' : i < n := by omega
      have hcut := hown.cut (m := i) (c := cap) (by omega) (by omega) (Nat.le_refl _)
      rw [Nat.mul_one, ← List.map_take, htake] at hcut
      have HS := Lib.hid (And.intro hcut hch)
      clear hown htake hdrop hch hcut
      have g1 : (i : Int) ≤ (n : Int) := by omega
      have g2 : ¬ cap = i := by omega
      have g3 : i ≤ n := by omega
      have g4 : 0 < n - i := by omega
      have g5 : i + (n - i) ≤ cap := by omega
      have g6 : (i : Int) ≤ (cap : Int) := by omega
      have g7 : i ≤ cap := by omega
      have hjI : ¬ (j : Int) < (n : Int) := by omega
      go_wp2_with (refine wpList_clear' rfl (.tmp 38) el_i rfl rfl (by rw [Nat.mul_one]) HS.out.1 g4 g5 zero_one' ?_; intro w3 hx hch; have H3 := Lib.hid (And.intro hx hch); clear hx hch)
      go_ret
      exact ⟨i, rfl, H3.out.1, (HS.out.2.trans H3.out.2 (fun k _ h => h)).to (fun k h => h.symm)⟩
-- END2
end Go.Proofs.YtibigfglhpdjmaaDoor
