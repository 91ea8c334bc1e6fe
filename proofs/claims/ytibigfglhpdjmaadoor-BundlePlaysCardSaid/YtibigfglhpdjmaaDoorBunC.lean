/-
  LAYER 16: lists of ints: Index, Contains, BinarySearch.
-/
import Derived.Test.YtibigfglhpdjmaaDoorInsI
import Derived.Test.YtibigfglhpdjmaaDoorBase
namespace Go.Proofs.YtibigfglhpdjmaaDoor
open Go Go.RowKit

def ci (x : Nat) : Value := .int .i64 (x : Int)
theorem ci_one (l : List Nat) : ∀ u ∈ l.map ci, u.oneCell' = true := by
  intro u hu
  obtain ⟨x, _, rfl⟩ := List.mem_map.1 hu
  rfl
theorem row_ci {w : World} {lo : Option Addr} {l : List Nat} {k x : Nat} (h : Row w lo (l.map ci)) (hx : l[k]? = some x) : ∃ b off, lo = some ⟨b, off, none⟩ ∧ w.cell? ⟨b, off + k, none⟩ = some (.int .i64 (x : Int)) := by
  obtain ⟨b, off, rfl, hc⟩ := h (by rintro e; simp at e; subst e; simp at hx)
  exact ⟨b, off, rfl, hc k _ (by simp [hx, ci])⟩
-- BEGIN1
theorem index_any (lo : Option Addr) (n cap : Nat) (l : List Nat) (z : Nat) (w : World) (hr : Row w lo (l.map ci)) (hn : l.length = n) (hm : n ≤ 1000000) :
    Calls Tryd.prog 33 #[.slice lo n cap, .int .i64 (z : Int)] w fun e w' => ∃ I : Int, e = .returned (.int .i64 I) ∧ w = w' ∧ (0 ≤ I ↔ z ∈ l) := by
  have HR := Lib.hid (And.intro hr hn)
  clear hr hn
  go_enter Tryd.func33, Tryd.ntmps33
  go_wp2
  go_loopg [8] n (fun g v wr => wr = w ∧ ∃ k : Nat, g + k = n ∧ v = .int .i64 k ∧ ∀ x ∈ l.take k, x ≠ z)
  case atStart => exact ⟨rfl, 0, rfl, rfl, by simp⟩
  case round =>
    obtain ⟨rfl, k, hk, rfl, hne⟩ := hrel
    by_cases hlt : k < n
    · obtain ⟨x, hx⟩ : ∃ x, l[k]? = some x := ⟨_, List.getElem?_eq_getElem (by rw [HR.out.2]; exact hlt)⟩
      obtain ⟨b, off, rfl, hc⟩ := row_ci HR.out.1 hx
      have hltI : (k : Int) < (n : Int) := by omega
      have h0I : (0 : Int) ≤ (k : Int) := by omega
      have HN := Lib.hid (And.intro hne hx)
      clear hne hx
      by_cases hz : x = z
      · subst hz
        as_aux_lemma =>
          go_wp2
          go_ret
          exact ⟨_, rfl, rfl, ⟨fun _ => List.mem_of_getElem? HN.out.2, fun _ => by omega⟩⟩
      · have hz1 : ((z : Int) == (x : Int)) = false := by simp; omega
        as_aux_lemma =>
          go_wp2
          go_roundg (gk - 1)
          case measure => omega
          case rel => exact ⟨rfl, k + 1, by omega, by go_num, fun y hy => by
            have e : l.take (k + 1) = l.take k ++ [x] := by
              obtain ⟨h1, h2⟩ := List.getElem?_eq_some_iff.1 HN.out.2
              rw [List.take_succ_eq_append_getElem h1, h2]
            rw [e] at hy
            rcases List.mem_append.1 hy with h | h
            · exact HN.out.1 y h
            · rw [List.mem_singleton] at h; rw [h]; exact hz⟩
    · have hltI : ¬ (k : Int) < (n : Int) := by omega
      have HN := Lib.hid hne
      clear hne
      as_aux_lemma =>
        go_wp2
        go_ret
        refine ⟨_, rfl, rfl, ⟨fun h => by omega, fun h => ?_⟩⟩
        rw [← List.take_of_length_le (l := l) (i := k) (by rw [HR.out.2]; omega)] at h
        exact absurd rfl (HN.out z h)
theorem contains_any (lo : Option Addr) (n cap : Nat) (l : List Nat) (z : Nat) (w : World) (hr : Row w lo (l.map ci)) (hn : l.length = n) (hm : n ≤ 1000000) :
    Calls Tryd.prog 25 #[.slice lo n cap, .int .i64 (z : Int)] w fun e w' => e = .returned (.bool (decide (z ∈ l))) ∧ w = w' := by
  go_enter Tryd.func25, Tryd.ntmps25
  go_wp2_with fail
  (with_reducible refine (index_any _ _ _ l z _ hr hn hm).mono ?_)
  rintro e w1 ⟨I, rfl, rfl, hI⟩
  go_wp2
  go_ret
  exact ⟨congrArg (fun b => Ending.returned (Value.bool b)) (by simp [hI]), rfl⟩
-- END1
-- BEGIN2
theorem less_any (x z : Nat) (w : World) : Calls Tryd.prog 40 #[.int .i64 (x : Int), .int .i64 (z : Int)] w fun e w' => e = .returned (.bool (decide (x < z))) ∧ Below w.heap.size w w' := by
  have hN : ∀ (y : Nat) (v : World), Calls Tryd.prog 47 #[.int .i64 (y : Int)] v fun e w' => e = .returned (.bool false) ∧ w' = v := fun y v => by
    go_enter Tryd.func47, Tryd.ntmps47
    go_wp2
    go_ret
    exact ⟨rfl, rfl⟩
  have HN := Lib.hid hN
  clear hN
  go_enter Tryd.func40, Tryd.ntmps40
  go_wp2_with ((with_reducible refine (HN.out _ _).mono ?_); rintro e w1 ⟨rfl, rfl⟩)
  go_ret
  exact ⟨congrArg (fun b => Ending.returned (Value.bool b)) (by simp), Below.refl _ _⟩
-- END2
theorem less_yes (x z : Nat) (w : World) (h : x < z) : Calls Tryd.prog 40 #[.int .i64 (x : Int), .int .i64 (z : Int)] w fun e w' => e = .returned (.bool true) ∧ Below w.heap.size w w' := by
  have := less_any x z w; simpa [h] using this
theorem less_no (x z : Nat) (w : World) (h : ¬ x < z) : Calls Tryd.prog 40 #[.int .i64 (x : Int), .int .i64 (z : Int)] w fun e w' => e = .returned (.bool false) ∧ Below w.heap.size w w' := by
  have := less_any x z w; simpa [h] using this
theorem isnan_any (y : Nat) (v : World) : Calls Tryd.prog 41 #[.int .i64 (y : Int)] v fun e w' => e = .returned (.bool false) ∧ w' = v := by
  go_enter Tryd.func41, Tryd.ntmps41
  go_wp2
  go_ret
  exact ⟨rfl, rfl⟩
def Inc (l : List Nat) : Prop := l.Pairwise (· < ·)
theorem Inc.le {l : List Nat} (h : Inc l) : ∀ (i j x y : Nat), i ≤ j → l[i]? = some x → l[j]? = some y → x ≤ y := by
  intro i j x y hij hx hy
  rcases Nat.lt_or_ge i j with h1 | h1
  · obtain ⟨hi, rfl⟩ := List.getElem?_eq_some_iff.1 hx
    obtain ⟨hj, rfl⟩ := List.getElem?_eq_some_iff.1 hy
    exact Nat.le_of_lt (List.pairwise_iff_getElem.1 h i j hi hj h1)
  · obtain rfl : i = j := by omega
    rw [hx] at hy; cases hy; exact Nat.le_refl _
-- BEGIN3
set_option maxHeartbeats 2000000 in
set_option maxRecDepth 100000 in
theorem bs_any (lo : Option Addr) (n cap : Nat) (l : List Nat) (z : Nat) (w : World) (hr : Row w lo (l.map ci)) (hn : l.length = n) (hm : n ≤ 1000000) (hs : Inc l) :
    Calls Tryd.prog 36 #[.slice lo n cap, .int .i64 (z : Int)] w fun e w' => ∃ (i : Nat) (fd : Bool), e = .returned (.tuple #[.int .i64 (i : Int), .bool fd]) ∧ Below w.heap.size w w' ∧ i ≤ n ∧ (∀ k x, k < i → l[k]? = some x → x < z) ∧ (∀ k x, i ≤ k → l[k]? = some x → z ≤ x) ∧ (fd = true ↔ l[i]? = some z) := by
  have HH := Lib.hid (And.intro hr (And.intro hn hs.le))
  clear hr hn hs
  go_enter Tryd.func36, Tryd.ntmps36
  go_wp2
  go_loopg [7, 8] n (fun g vi vj wr => ∃ i j : Nat, g + i = j ∧ vi = .int .i64 i ∧ vj = .int .i64 j ∧ j ≤ n ∧ (∀ k x, k < i → l[k]? = some x → x < z) ∧ (∀ k x, j ≤ k → l[k]? = some x → z ≤ x) ∧ Below w.heap.size w wr)
  case atStart => exact ⟨0, n, rfl, rfl, rfl, Nat.le_refl _, fun _ _ h => by omega, fun k x hk hx => by have := (List.getElem?_eq_some_iff.1 hx).1; have := HH.out.2.1; omega, Below.refl _ _⟩
  case round =>
    obtain ⟨i, j, hg, rfl, rfl, hjn, hlo, hhi, hb⟩ := hrel
    have HR := Lib.hid (And.intro hlo (And.intro hhi hb))
    by_cases hij : i < j
    · have hadd := IntWalk.i64_in ((i : Int) + (j : Int)) (by omega)
      have hadu := IntWalk.u64_in ((i : Int) + (j : Int)) (by omega)
      obtain ⟨m, hm2, hmi, hmj⟩ : ∃ m : Nat, ((i : Int) + (j : Int)) / 2 = (m : Int) ∧ i ≤ m ∧ m < j := ⟨(i + j) / 2, by omega, by omega, by omega⟩
      have hm1 := IntWalk.i64_in ((m : Int) + 1) (by omega)
      have hmw := IntWalk.i64_in (m : Int) (by omega)
      have hmn : (m : Int) < (n : Int) := by omega
      have hm0 : (0 : Int) ≤ (m : Int) := by omega
      obtain ⟨x, hx⟩ : ∃ x, l[m]? = some x := ⟨_, List.getElem?_eq_getElem (by rw [HH.out.2.1]; omega)⟩
      obtain ⟨b, off, rfl, hc⟩ := row_ci (Row.below HH.out.1 hb) hx
      have HX := Lib.hid hx
      clear hlo hhi hb hx
      by_cases hxz : x < z
      · as_aux_lemma =>
          go_wp2_with ((with_reducible refine (less_yes x z _ hxz).mono ?_); rintro r w1 ⟨rfl, hb1⟩; have H1 := Lib.hid hb1; clear hb1)
          go_roundg (j - (m + 1))
          case measure => omega
          case rel => exact ⟨m + 1, j, by omega, by go_num, rfl, hjn, fun k y hk hy => by
              have := HH.out.2.2 k m y x (by omega) hy HX.out
              omega, HR.out.2.1, HR.out.2.2.trans (H1.out.mono HR.out.2.2.size)⟩
      · as_aux_lemma =>
          go_wp2_with ((with_reducible refine (less_no x z _ hxz).mono ?_); rintro r w1 ⟨rfl, hb1⟩; have H1 := Lib.hid hb1; clear hb1)
          go_roundg (m - i)
          case measure => omega
          case rel => exact ⟨i, m, by omega, rfl, rfl, by omega, HR.out.1, fun k y hk hy => by
              have := HH.out.2.2 m k x y hk HX.out hy
              omega, HR.out.2.2.trans (H1.out.mono HR.out.2.2.size)⟩
    · obtain rfl : i = j := by omega
      have HB := Lib.hid hb
      by_cases hin : i < n
      · have hinI : (i : Int) < (n : Int) := by omega
        have hi0 : (0 : Int) ≤ (i : Int) := by omega
        obtain ⟨x, hx⟩ : ∃ x, l[i]? = some x := ⟨_, List.getElem?_eq_getElem (by rw [HH.out.2.1]; omega)⟩
        obtain ⟨b, off, rfl, hc⟩ := row_ci (Row.below HH.out.1 hb) hx
        have HX := Lib.hid hx
        clear hlo hhi hb hx
        by_cases hz : x = z
        · subst hz
          as_aux_lemma =>
            go_wp2
            go_ret2
            exact ⟨i, _, rfl, HB.out, hjn, HR.out.1, HR.out.2.1, ⟨fun _ => HX.out, fun _ => rfl⟩⟩
        · have hz1 : ((x : Int) == (z : Int)) = false := by simp; omega
          as_aux_lemma =>
            go_wp2_with ((with_reducible refine (isnan_any _ _).mono ?_); rintro r w1 ⟨rfl, rfl⟩)
            go_ret2
            refine ⟨i, _, rfl, HB.out, hjn, HR.out.1, HR.out.2.1, ⟨fun h => (by cases h), fun h => ?_⟩⟩
            have := HX.out.symm.trans h
            cases this
            exact absurd rfl hz
      · have hinI : decide ((i : Int) < (n : Int)) = false := decide_eq_false (by omega)
        have hinJ : ¬ (i : Int) < (n : Int) := by omega
        clear hlo hhi hb
        as_aux_lemma =>
          go_wp2
          go_ret2
          refine ⟨i, .inl ⟨rfl, HB.out, hjn, HR.out.1, HR.out.2.1, fun h => ?_⟩⟩
          have := (List.getElem?_eq_some_iff.1 h).1
          have := HH.out.2.1
          omega
-- END3
end Go.Proofs.YtibigfglhpdjmaaDoor
