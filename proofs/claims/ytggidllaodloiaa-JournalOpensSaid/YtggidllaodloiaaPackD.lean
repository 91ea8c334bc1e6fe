/-
  LAYER 2: the document's Unframe, once more: where its body lies.
-/
import Derived.Test.YtggidllaodloiaaPackJ
namespace Go.Proofs.Ytggidllaodloiaa
open Go Go.RowKit

def RefD (w : World) (p : Nat) (D : Option Nat) (bs : List UInt8) (code : Int) : Prop :=
  ∃ ao cap, w.heap[p]? = some (.cells #[.slice ao bs.length cap, .int .i64 code] 74 (0, 0)) ∧ Bts w ao bs ∧ bs.length ≤ cap ∧ cap ≤ maxLen ∧ (bs ≠ [] → ∀ a, ao = some a → a.block ≠ p) ∧ ∀ a, ao = some a → D = some a.block
set_option maxHeartbeats 1000000 in
set_option maxRecDepth 100000 in
theorem refnumD_any (p : Nat) (D : Option Nat) (bs : List UInt8) (n : Nat) (N : Int) (hN : N = (n : Int)) (w : World) (h : RefD w p D bs 0) (hn : n ≤ bs.length) (h8 : n ≤ 8) (hb : bs.length ≤ 140737488351232) :
    Calls Try.prog 32 #[.pointer (some ⟨p, 0, none⟩), .int .i64 N] w fun e w' => e = .returned (.int .u64 (ube (bs.take n) : Int)) ∧ RefD w' p D (bs.drop n) 0 ∧ Chg (· = p) w w' := by
  subst hN
  obtain ⟨ao, cap, h1, h2, h3, h4, h5, h6⟩ := h
  have HD := Lib.hid h6
  clear h6
  have z0 := heap_cell h1 0
  have z1 := heap_cell h1 1
  have z2 := heap_frozen h1 0
  simp at z0 z1
  have H := Lib.hid (And.intro h1 (And.intro h2 (And.intro h3 (And.intro h4 h5))))
  clear h1 h2 h5
  unfold maxLen at h4
  have hbt : ∀ u : Value, Bts (w.setCell ⟨p, 0, none⟩ u) ao bs := by
    intro u
    by_cases hz : bs = []
    · rw [hz]; exact Bts.nil _ _
    · exact (Chg.one _ _ _ _).row H.out.2.1 (fun a ha => H.out.2.2.2.2 hz a ha)
  have HB := Lib.hid hbt
  clear hbt
  have hni : ¬ (bs.length : Int) < (n : Int) := by omega
  have hnl : (n : Int) ≤ (bs.length : Int) := by omega
  have hle : ∀ k : Nat, k < n → (k : Int) < (bs.length : Int) := by intro k hk; omega
  go_enter Try.func32, Try.ntmps32
  go_wp2
  go_loopg [5, 6] n (fun g x i wr => wr = w ∧ ∃ k : Nat, g + k = n ∧ x = .int .u64 (ube (bs.take k) : Int) ∧ i = .int .i64 k)
  case atStart => exact ⟨rfl, 0, by omega, rfl, rfl⟩
  case round =>
    obtain ⟨rfl, k, hk, rfl, rfl⟩ := hrel
    by_cases hlt : k < n
    · have hkx : k < bs.length := by omega
      obtain ⟨b, off, rfl, hcell⟩ := H.out.2.1.at (by omega)
      have h1 := hcell k hkx
      have HT := Lib.hid (show ube (bs.take (k + 1)) = ube (bs.take k) * 256 + bs[k].toNat by rw [List.take_succ_eq_append_getElem hkx, ube_snoc])
      have hu := ube_lt (bs.take k)
      rw [List.length_take, Nat.min_eq_left (by omega)] at hu
      have hu2 : ube (bs.take k) < 72057594037927936 := Nat.lt_of_lt_of_le hu (Nat.pow_le_pow_right (n := 256) (i := k) (j := 7) (by decide) (by omega))
      clear hu
      have hy := (bs[k]).toNat_lt
      generalize ube (bs.take k) = X at *
      generalize bs[k] = y at *
      have HM := Lib.hid (mul256 X y hu2)
      have hi0 := IntWalk.u64_in (y.toNat : Int) (by omega)
      have hi1 := IntWalk.u64_in ((X : Int) * 256) (by omega)
      have hi2 := IntWalk.u64_in ((X : Int) * 256 + (y.toNat : Int)) (by omega)
      clear hcell HB
      go_wp2
      go_roundg (gk - 1)
      case measure => omega
      case rel => exact ⟨rfl, k + 1, by omega, by rw [HT.out, ← HM.out], by go_num⟩
    · obtain rfl : k = n := by omega
      clear hle
      by_cases hc : cap = k
      · go_wp2
        go_ret
        refine ⟨rfl, ⟨ao, 0, ?_, ?_, by rw [List.length_drop]; omega, by simp, fun hx => ?_, HD.out⟩, Chg.one _ _ _ _⟩
        · rw [heap_set H.out.1]; simp; try omega
        · rw [List.drop_of_length_le (by omega)]; exact Bts.nil _ _
        · exact absurd (List.drop_of_length_le (by omega)) hx
      · go_wp2
        go_ret
        refine ⟨rfl, ⟨ao.map (fun x => x.add k), cap - k, ?_, ?_, by rw [List.length_drop]; omega, by unfold maxLen; omega, ?_, fun a ha => ?_⟩, Chg.one _ _ _ _⟩
        · rw [heap_set H.out.1]; simp
        · exact (HB.out _).drop' k
        · intro hx a ha
          have hz : bs ≠ [] := by rintro rfl; simp at hx
          cases ao with
          | none => cases ha
          | some a0 => cases ha; rw [block_add]; exact H.out.2.2.2.2 hz a0 rfl
        · cases ao with
          | none => cases ha
          | some a0 => cases ha; rw [block_add]; exact HD.out a0 rfl
theorem refnumD_at (p : Nat) (D : Option Nat) (bs rs : List UInt8) (n X : Nat) (N : Int) (w : World) (h : RefD w p D bs 0) (hN : N = (n : Int)) (hn : n ≤ bs.length) (h8 : n ≤ 8) (hb : bs.length ≤ 140737488351232) (hX : ube (bs.take n) = X) (hr : bs.drop n = rs) :
    Calls Try.prog 32 #[.pointer (some ⟨p, 0, none⟩), .int .i64 N] w fun e w' => e = .returned (.int .u64 (X : Int)) ∧ RefD w' p D rs 0 ∧ Chg (· = p) w w' := by
  subst hX hr
  exact refnumD_any p D bs n N hN w h hn h8 hb
/-- What the document's Unframe gives. -/
def UnfD (D : Option Nat) (w : World) (bs : List UInt8) (e : Ending) (w' : World) : Prop := ∃ bo bc ro rc, e = .returned (.tuple #[.slice bo (unf bs).1.length bc, .slice ro (unf bs).2.1.length rc, .int .i64 ((unf bs).2.2 : Nat)]) ∧ Below w.heap.size w w' ∧ Bts w' bo (unf bs).1 ∧ Bts w' ro (unf bs).2.1 ∧ ∀ a, bo = some a → D = some a.block
theorem unfD_bad {D : Option Nat} {w w' : World} {bs : List UInt8} {code : Nat} (hu : unf bs = ([], [], code)) (hw : Below w.heap.size w w') : UnfD D w bs (.returned (.tuple #[.slice none 0 0, .slice none 0 0, .int .i64 (code : Int)])) w' := by
  refine ⟨none, 0, none, 0, ?_, hw, ?_, ?_, by simp⟩
  · rw [hu]; rfl
  · rw [hu]; exact Bts.nil _ _
  · rw [hu]; exact Bts.nil _ _
set_option maxHeartbeats 4000000 in
set_option maxRecDepth 100000 in
theorem refunframeD (ao : Option Addr) (n c : Nat) (bs : List UInt8) (w : World) (hl : bs.length = n) (hn : n ≤ 1000000) (hb : Bts w ao bs) (hnc : n ≤ c) (hm : c ≤ maxLen) :
    Calls Try.prog 25 #[.slice ao n c] w (UnfD (ao.map (·.block)) w bs) := by
  by_cases h8 : n < 8
  · have HB := Lib.hid (show unf bs = ([], [], 4) by simp [unf, show bs.length < 8 by omega])
    go_enter Try.func25, Try.ntmps25
    go_wp2
    go_ret3
    exact unfD_bad HB.out (Below.refl _ _)
  · have hbel : ∀ (o : Obj), Below w.heap.size w (w.alloc o) := fun o => (Below.refl _ w).alloc (Nat.le_refl _) o
    have h0 : RefD (w.alloc (.cells #[.slice ao n c, .int .i64 0] 74)) w.heap.size (ao.map (·.block)) bs 0 := by
      refine ⟨ao, c, ?_, hb.below (hbel _), by omega, hm, fun hz a ha => ?_, fun a ha => by rw [ha]; rfl⟩
      · rw [hl]; exact heap_top _ _
      · subst ha
        have := bts_lt hb hz a rfl; omega
    have H0 := Lib.hid (And.intro h0 (hbel (.cells #[.slice ao n c, .int .i64 0] 74)))
    obtain ⟨N, hN⟩ : ∃ N, ube (bs.take 4) = N := ⟨_, rfl⟩
    obtain ⟨S, hS⟩ : ∃ S, ube ((bs.drop 4).take 4) = S := ⟨_, rfl⟩
    obtain ⟨r, hr⟩ : ∃ r, bs.drop 8 = r := ⟨_, rfl⟩
    have hrl : r.length + 8 = n := by rw [← hr, List.length_drop]; omega
    have hr2 : (bs.drop 4).drop 4 = r := by rw [List.drop_drop]; exact hr
    have hun : unf bs = if 4096 < N then ([], [], 3) else if r.length < N then ([], [], 4) else if (crc (r.take N)).toNat = S then (r.take N, r.drop N, 0) else ([], [], 7) := by
      rw [unf, if_neg (by omega), hN, hS, hr]
    have H1 := Lib.hid (And.intro hN (And.intro hS (And.intro hr2 hun)))
    have H4 := Lib.hid (And.intro (show 4 ≤ bs.length by omega) (And.intro (show bs.length ≤ 140737488351232 by omega) (And.intro (show 4 ≤ (bs.drop 4).length by rw [List.length_drop]; omega) (show (bs.drop 4).length ≤ 140737488351232 by rw [List.length_drop]; omega))))
    have hr6 : r.length ≤ 1000000 := by omega
    have hu1 := IntWalk.u64_in (r.length : Int) (by omega)
    clear hbel h0 hb hN hS hr hr2 hun hl
    have hlen : ∀ (w2 : World), RefD w2 w.heap.size (ao.map (·.block)) r 0 → ∃ ao2 cap2, w2.cell? ⟨w.heap.size, 0, none⟩ = some (.slice ao2 r.length cap2) ∧ (Bts w2 ao2 r ∧ ∀ a, ao2 = some a → ao.map (·.block) = some a.block) ∧ r.length ≤ cap2 ∧ cap2 ≤ maxLen := by
      rintro w2 ⟨ao2, cap2, g1, g2, g3, g4, _, g6⟩
      have z0 := heap_cell g1 0
      simp at z0
      exact ⟨ao2, cap2, z0, ⟨g2, g6⟩, g3, g4⟩
    have HLN := Lib.hid hlen
    clear hlen
    by_cases h1 : 4096 < N
    · have HB := Lib.hid (show unf bs = ([], [], 3) by rw [H1.out.2.2.2, if_pos h1])
      go_enter Try.func25, Try.ntmps25
      go_wp2_with (first
        | (go_at_call 32; (with_reducible refine (refnumD_at w.heap.size (ao.map (·.block)) bs (bs.drop 4) 4 N 4 _ H0.out.1 rfl H4.out.1 (by decide) H4.out.2.1 H1.out.1 rfl).mono ?_); rintro e1 w1 ⟨rfl, k1, k2⟩; have K1 := Lib.hid (And.intro k1 k2); clear k1 k2)
        | (go_at_call 32; (with_reducible refine (refnumD_at w.heap.size (ao.map (·.block)) (bs.drop 4) r 4 S 4 _ K1.out.1 rfl H4.out.2.2.1 (by decide) H4.out.2.2.2 H1.out.2.1 H1.out.2.2.1).mono ?_); rintro e2 w2 ⟨rfl, k1, k2⟩; have K2 := Lib.hid (And.intro k1 k2); clear k1 k2))
      go_ret3
      exact unfD_bad HB.out ((H0.out.2.trans (K1.out.2.below H0.out.2.size (fun k hk => by omega))).trans (K2.out.2.below (Nat.le_trans H0.out.2.size K1.out.2.size) (fun k hk => by omega)))
    · by_cases h2 : r.length < N
      · have HB := Lib.hid (show unf bs = ([], [], 4) by rw [H1.out.2.2.2, if_neg h1, if_pos h2])
        have h2i : (r.length : Int) < (N : Int) := by omega
        go_enter Try.func25, Try.ntmps25
        go_wp2_with (first
          | (go_at_call 32; (with_reducible refine (refnumD_at w.heap.size (ao.map (·.block)) bs (bs.drop 4) 4 N 4 _ H0.out.1 rfl H4.out.1 (by decide) H4.out.2.1 H1.out.1 rfl).mono ?_); rintro e1 w1 ⟨rfl, k1, k2⟩; have K1 := Lib.hid (And.intro k1 k2); clear k1 k2)
          | (go_at_call 32; (with_reducible refine (refnumD_at w.heap.size (ao.map (·.block)) (bs.drop 4) r 4 S 4 _ K1.out.1 rfl H4.out.2.2.1 (by decide) H4.out.2.2.2 H1.out.2.1 H1.out.2.2.1).mono ?_); rintro e2 w2 ⟨rfl, k1, k2⟩; obtain ⟨ao2, cap2, z0, g2, g3, g4⟩ := HLN.out _ k1; have K2 := Lib.hid (And.intro k1 k2); clear k1 k2 g2))
        go_ret3
        exact unfD_bad HB.out ((H0.out.2.trans (K1.out.2.below H0.out.2.size (fun k hk => by omega))).trans (K2.out.2.below (Nat.le_trans H0.out.2.size K1.out.2.size) (fun k hk => by omega)))
      · have h2i : ¬ (r.length : Int) < (N : Int) := by omega
        have htl := Lib.hid (show (r.take N).length = N by rw [List.length_take]; omega)
        have hN7 : N ≤ 140737488351232 := by omega
        have hcr := (crc (r.take N)).isLt
        have hus := IntWalk.u64_in ((crc (r.take N)).toNat : Int) (by omega)
        by_cases h3 : (crc (r.take N)).toNat = S
        · have HB := Lib.hid (show unf bs = (r.take N, r.drop N, 0) by rw [H1.out.2.2.2, if_neg h1, if_neg h2, if_pos h3])
          have H3 := Lib.hid h3
          have h3b : (((crc (r.take N)).toNat : Int) == (S : Int)) = true := by simp [h3]
          have h3c : (((crc (r.take N)).toNat : Int) != (S : Int)) = false := by simp [h3]
          clear h3
          go_enter Try.func25, Try.ntmps25
          go_wp2_with (first
            | (go_at_call 32; (with_reducible refine (refnumD_at w.heap.size (ao.map (·.block)) bs (bs.drop 4) 4 N 4 _ H0.out.1 rfl H4.out.1 (by decide) H4.out.2.1 H1.out.1 rfl).mono ?_); rintro e1 w1 ⟨rfl, k1, k2⟩; have K1 := Lib.hid (And.intro k1 k2); clear k1 k2)
            | (go_at_call 32; (with_reducible refine (refnumD_at w.heap.size (ao.map (·.block)) (bs.drop 4) r 4 S 4 _ K1.out.1 rfl H4.out.2.2.1 (by decide) H4.out.2.2.2 H1.out.2.1 H1.out.2.2.1).mono ?_); rintro e2 w2 ⟨rfl, k1, k2⟩; obtain ⟨ao2, cap2, z0, g2, g3, g4⟩ := HLN.out _ k1; unfold maxLen at g4; have K2 := Lib.hid (And.intro k1 (And.intro k2 g2)); clear k1 k2 g2)
            | (go_at_call 27; (with_reducible refine (refsum_any' ao2 N cap2 (r.take N) _ htl.out hN7 (K2.out.2.2.1.take N)).mono ?_); rintro e3 w3 ⟨rfl, rfl⟩))
          have hBW := Lib.hid ((H0.out.2.trans (K1.out.2.below H0.out.2.size (fun k hk => by omega))).trans (K2.out.2.1.below (Nat.le_trans H0.out.2.size K1.out.2.size) (fun k hk => by omega)))
          by_cases hc : cap2 = N
          · have hrN : r.length = N := by omega
            have HRN := Lib.hid hrN
            clear hrN
            subst hc
            go_quiet (fail)
            go_wp2
            go_ret3
            refine ⟨ao2, cap2, ao2, 0, ?_, below_drewN hBW.out nq, ?_, ?_, K2.out.2.2.2⟩
            · rw [HB.out]; simp [htl.out, HRN.out]
            · rw [HB.out]; exact (K2.out.2.2.1.take cap2).drewN nq
            · rw [HB.out]; show Bts _ _ (r.drop cap2); rw [List.drop_of_length_le (by rw [HRN.out]; exact Nat.le_refl _)]; exact Bts.nil _ _
          · go_quiet (fail)
            go_wp2
            go_ret3
            refine ⟨ao2, cap2, ao2.map (fun x => x.add N), cap2 - N, ?_, below_drewN hBW.out nq, ?_, ?_, K2.out.2.2.2⟩
            · rw [HB.out]; simp [htl.out]
            · rw [HB.out]; exact (K2.out.2.2.1.take N).drewN nq
            · rw [HB.out]; exact (K2.out.2.2.1.drop' N).drewN nq
        · have HB := Lib.hid (show unf bs = ([], [], 7) by rw [H1.out.2.2.2, if_neg h1, if_neg h2, if_neg h3])
          have h3i : ¬ (((crc (r.take N)).toNat : Int) = (S : Int)) := by omega
          go_enter Try.func25, Try.ntmps25
          go_wp2_with (first
            | (go_at_call 32; (with_reducible refine (refnumD_at w.heap.size (ao.map (·.block)) bs (bs.drop 4) 4 N 4 _ H0.out.1 rfl H4.out.1 (by decide) H4.out.2.1 H1.out.1 rfl).mono ?_); rintro e1 w1 ⟨rfl, k1, k2⟩; have K1 := Lib.hid (And.intro k1 k2); clear k1 k2)
            | (go_at_call 32; (with_reducible refine (refnumD_at w.heap.size (ao.map (·.block)) (bs.drop 4) r 4 S 4 _ K1.out.1 rfl H4.out.2.2.1 (by decide) H4.out.2.2.2 H1.out.2.1 H1.out.2.2.1).mono ?_); rintro e2 w2 ⟨rfl, k1, k2⟩; obtain ⟨ao2, cap2, z0, g2, g3, g4⟩ := HLN.out _ k1; unfold maxLen at g4; have K2 := Lib.hid (And.intro k1 (And.intro k2 g2)); clear k1 k2 g2)
            | (go_at_call 27; (with_reducible refine (refsum_any' ao2 N cap2 (r.take N) _ htl.out hN7 (K2.out.2.2.1.take N)).mono ?_); rintro e3 w3 ⟨rfl, rfl⟩))
          go_ret3
          exact unfD_bad HB.out ((H0.out.2.trans (K1.out.2.below H0.out.2.size (fun k hk => by omega))).trans (K2.out.2.1.below (Nat.le_trans H0.out.2.size K1.out.2.size) (fun k hk => by omega)))
end Go.Proofs.Ytggidllaodloiaa
