/-
  LAYER 2: the document's Unframe; the law PackFrames, walked.
-/
import Derived.Test.YtggidllaodloiaaPackI
namespace Go.Proofs.Ytggidllaodloiaa
open Go Go.RowKit

theorem refnum_at (p : Nat) (bs rs : List UInt8) (n X : Nat) (N : Int) (w : World) (h : RefAt w p bs 0) (hN : N = (n : Int)) (hn : n ≤ bs.length) (h8 : n ≤ 8) (hb : bs.length ≤ 140737488351232) (hX : ube (bs.take n) = X) (hr : bs.drop n = rs) :
    Calls Try.prog 32 #[.pointer (some ⟨p, 0, none⟩), .int .i64 N] w fun e w' => e = .returned (.int .u64 (X : Int)) ∧ RefAt w' p rs 0 ∧ Chg (· = p) w w' := by
  subst hX hr
  exact refnum_any p bs n N hN w h hn h8 hb
/-- What the document's Unframe gives. -/
def UnfIs (w : World) (bs : List UInt8) (e : Ending) (w' : World) : Prop := ∃ bo bc ro rc, e = .returned (.tuple #[.slice bo (unf bs).1.length bc, .slice ro (unf bs).2.1.length rc, .int .i64 ((unf bs).2.2 : Nat)]) ∧ Below w.heap.size w w' ∧ Bts w' bo (unf bs).1 ∧ Bts w' ro (unf bs).2.1
theorem unf_bad {w w' : World} {bs : List UInt8} {code : Nat} (hu : unf bs = ([], [], code)) (hw : Below w.heap.size w w') : UnfIs w bs (.returned (.tuple #[.slice none 0 0, .slice none 0 0, .int .i64 (code : Int)])) w' := by
  refine ⟨none, 0, none, 0, ?_, hw, ?_, ?_⟩
  · rw [hu]; rfl
  · rw [hu]; exact Bts.nil _ _
  · rw [hu]; exact Bts.nil _ _
set_option maxHeartbeats 4000000 in
set_option maxRecDepth 100000 in
theorem refunframe_all (ao : Option Addr) (n c : Nat) (bs : List UInt8) (w : World) (hl : bs.length = n) (hn : n ≤ 1000000) (hb : Bts w ao bs) (hnc : n ≤ c) (hm : c ≤ maxLen) :
    Calls Try.prog 25 #[.slice ao n c] w (UnfIs w bs) := by
  by_cases h8 : n < 8
  · have HB := Lib.hid (show unf bs = ([], [], 4) by simp [unf, show bs.length < 8 by omega])
    go_enter Try.func25, Try.ntmps25
    go_wp2
    go_ret3
    exact unf_bad HB.out (Below.refl _ _)
  · have hbel : ∀ (o : Obj), Below w.heap.size w (w.alloc o) := fun o => (Below.refl _ w).alloc (Nat.le_refl _) o
    have h0 : RefAt (w.alloc (.cells #[.slice ao n c, .int .i64 0] 74)) w.heap.size bs 0 := by
      refine ⟨ao, c, ?_, hb.below (hbel _), by omega, hm, fun hz a ha => ?_⟩
      · rw [hl]; exact heap_top _ _
      · subst ha
        have := bts_lt hb hz a rfl; omega
    have H0 := Lib.hid (And.intro h0 (hbel (.cells #[.slice ao n c, .int .i64 0] 74)))
    obtain ⟨N, hN⟩ : ∃ N, ube (bs.take 4) = N := ⟨_, rfl⟩
    obtain ⟨S, hS⟩ : ∃ S, ube ((bs.drop 4).take 4) = S := ⟨_, rfl⟩
    obtain ⟨r, hr⟩ : ∃ r, bs.drop 8 = r := ⟨_, rfl⟩
    have hrl : r.length + 8 = n := by rw [← hr, List.length_drop]; omega
    have hr2 : (bs.drop 4).drop 4 = r := by rw [List.drop_drop]; exact hr
    have hun : unf bs = if 4096 < N then ([], [], 3) else if r.length < N then ([], [], 4) else if (crc (r.take N)).toNat = S then (r.take N, r.drop N, 0) else ([], [], 7) := by
      rw [unf, if_neg (by omega), hN, hS, hr]
    have H1 := Lib.hid (And.intro hN (And.intro hS (And.intro hr2 hun)))
    have H4 := Lib.hid (And.intro (show 4 ≤ bs.length by omega) (And.intro (show bs.length ≤ 140737488351232 by omega) (And.intro (show 4 ≤ (bs.drop 4).length by rw [List.length_drop]; omega) (show (bs.drop 4).length ≤ 140737488351232 by rw [List.length_drop]; omega))))
    have hr6 : r.length ≤ 1000000 := by omega
    have hu1 := IntWalk.u64_in (r.length : Int) (by omega)
    clear hbel h0 hb hN hS hr hr2 hun hl
    have hlen : ∀ (w2 : World), RefAt w2 w.heap.size r 0 → ∃ ao2 cap2, w2.cell? ⟨w.heap.size, 0, none⟩ = some (.slice ao2 r.length cap2) ∧ Bts w2 ao2 r ∧ r.length ≤ cap2 ∧ cap2 ≤ maxLen := by
      rintro w2 ⟨ao2, cap2, g1, g2, g3, g4, _⟩
      have z0 := heap_cell g1 0
      simp at z0
      exact ⟨ao2, cap2, z0, g2, g3, g4⟩
    have HLN := Lib.hid hlen
    clear hlen
    by_cases h1 : 4096 < N
    · have HB := Lib.hid (show unf bs = ([], [], 3) by rw [H1.out.2.2.2, if_pos h1])
      go_enter Try.func25, Try.ntmps25
      go_wp2_with (first
        | (go_at_call 32; (with_reducible refine (refnum_at w.heap.size bs (bs.drop 4) 4 N 4 _ H0.out.1 rfl H4.out.1 (by decide) H4.out.2.1 H1.out.1 rfl).mono ?_); rintro e1 w1 ⟨rfl, k1, k2⟩; have K1 := Lib.hid (And.intro k1 k2); clear k1 k2)
        | (go_at_call 32; (with_reducible refine (refnum_at w.heap.size (bs.drop 4) r 4 S 4 _ K1.out.1 rfl H4.out.2.2.1 (by decide) H4.out.2.2.2 H1.out.2.1 H1.out.2.2.1).mono ?_); rintro e2 w2 ⟨rfl, k1, k2⟩; have K2 := Lib.hid (And.intro k1 k2); clear k1 k2))
      go_ret3
      exact unf_bad HB.out ((H0.out.2.trans (K1.out.2.below H0.out.2.size (fun k hk => by omega))).trans (K2.out.2.below (Nat.le_trans H0.out.2.size K1.out.2.size) (fun k hk => by omega)))
    · by_cases h2 : r.length < N
      · have HB := Lib.hid (show unf bs = ([], [], 4) by rw [H1.out.2.2.2, if_neg h1, if_pos h2])
        have h2i : (r.length : Int) < (N : Int) := by omega
        go_enter Try.func25, Try.ntmps25
        go_wp2_with (first
          | (go_at_call 32; (with_reducible refine (refnum_at w.heap.size bs (bs.drop 4) 4 N 4 _ H0.out.1 rfl H4.out.1 (by decide) H4.out.2.1 H1.out.1 rfl).mono ?_); rintro e1 w1 ⟨rfl, k1, k2⟩; have K1 := Lib.hid (And.intro k1 k2); clear k1 k2)
          | (go_at_call 32; (with_reducible refine (refnum_at w.heap.size (bs.drop 4) r 4 S 4 _ K1.out.1 rfl H4.out.2.2.1 (by decide) H4.out.2.2.2 H1.out.2.1 H1.out.2.2.1).mono ?_); rintro e2 w2 ⟨rfl, k1, k2⟩; obtain ⟨ao2, cap2, z0, g2, g3, g4⟩ := HLN.out _ k1; have K2 := Lib.hid (And.intro k1 k2); clear k1 k2 g2))
        go_ret3
        exact unf_bad HB.out ((H0.out.2.trans (K1.out.2.below H0.out.2.size (fun k hk => by omega))).trans (K2.out.2.below (Nat.le_trans H0.out.2.size K1.out.2.size) (fun k hk => by omega)))
      · have h2i : ¬ (r.length : Int) < (N : Int) := by omega
        have htl := Lib.hid (show (r.take N).length = N by rw [List.length_take]; omega)
        have hN7 : N ≤ 140737488351232 := by omega
        have hcr := (crc (r.take N)).isLt
        have hus := IntWalk.u64_in ((crc (r.take N)).toNat : Int) (by omega)
        by_cases h3 : (crc (r.take N)).toNat = S
        · have HB := Lib.hid (show unf bs = (r.take N, r.drop N, 0) by rw [H1.out.2.2.2, if_neg h1, if_neg h2, if_pos h3])
          have H3 := Lib.hid h3
          have h3b : (((crc (r.take N)).toNat : Int) == (S : Int)) = true := by simp [h3]
          have h3c : (((crc (r.take N)).toNat : Int) != (S : Int)) = false := by simp [h3]
          clear h3
          go_enter Try.func25, Try.ntmps25
          go_wp2_with (first
            | (go_at_call 32; (with_reducible refine (refnum_at w.heap.size bs (bs.drop 4) 4 N 4 _ H0.out.1 rfl H4.out.1 (by decide) H4.out.2.1 H1.out.1 rfl).mono ?_); rintro e1 w1 ⟨rfl, k1, k2⟩; have K1 := Lib.hid (And.intro k1 k2); clear k1 k2)
            | (go_at_call 32; (with_reducible refine (refnum_at w.heap.size (bs.drop 4) r 4 S 4 _ K1.out.1 rfl H4.out.2.2.1 (by decide) H4.out.2.2.2 H1.out.2.1 H1.out.2.2.1).mono ?_); rintro e2 w2 ⟨rfl, k1, k2⟩; obtain ⟨ao2, cap2, z0, g2, g3, g4⟩ := HLN.out _ k1; unfold maxLen at g4; have K2 := Lib.hid (And.intro k1 (And.intro k2 g2)); clear k1 k2 g2)
            | (go_at_call 27; (with_reducible refine (refsum_any' ao2 N cap2 (r.take N) _ htl.out hN7 (K2.out.2.2.take N)).mono ?_); rintro e3 w3 ⟨rfl, rfl⟩))
          have hBW := Lib.hid ((H0.out.2.trans (K1.out.2.below H0.out.2.size (fun k hk => by omega))).trans (K2.out.2.1.below (Nat.le_trans H0.out.2.size K1.out.2.size) (fun k hk => by omega)))
          by_cases hc : cap2 = N
          · have hrN : r.length = N := by omega
            have HRN := Lib.hid hrN
            clear hrN
            subst hc
            go_quiet (fail)
            go_wp2
            go_ret3
            refine ⟨ao2, cap2, ao2, 0, ?_, below_drewN hBW.out nq, ?_, ?_⟩
            · rw [HB.out]; simp [htl.out, HRN.out]
            · rw [HB.out]; exact (K2.out.2.2.take cap2).drewN nq
            · rw [HB.out]; show Bts _ _ (r.drop cap2); rw [List.drop_of_length_le (by rw [HRN.out]; exact Nat.le_refl _)]; exact Bts.nil _ _
          · go_quiet (fail)
            go_wp2
            go_ret3
            refine ⟨ao2, cap2, ao2.map (fun x => x.add N), cap2 - N, ?_, below_drewN hBW.out nq, ?_, ?_⟩
            · rw [HB.out]; simp [htl.out]
            · rw [HB.out]; exact (K2.out.2.2.take N).drewN nq
            · rw [HB.out]; exact (K2.out.2.2.drop' N).drewN nq
        · have HB := Lib.hid (show unf bs = ([], [], 7) by rw [H1.out.2.2.2, if_neg h1, if_neg h2, if_neg h3])
          have h3i : ¬ (((crc (r.take N)).toNat : Int) = (S : Int)) := by omega
          go_enter Try.func25, Try.ntmps25
          go_wp2_with (first
            | (go_at_call 32; (with_reducible refine (refnum_at w.heap.size bs (bs.drop 4) 4 N 4 _ H0.out.1 rfl H4.out.1 (by decide) H4.out.2.1 H1.out.1 rfl).mono ?_); rintro e1 w1 ⟨rfl, k1, k2⟩; have K1 := Lib.hid (And.intro k1 k2); clear k1 k2)
            | (go_at_call 32; (with_reducible refine (refnum_at w.heap.size (bs.drop 4) r 4 S 4 _ K1.out.1 rfl H4.out.2.2.1 (by decide) H4.out.2.2.2 H1.out.2.1 H1.out.2.2.1).mono ?_); rintro e2 w2 ⟨rfl, k1, k2⟩; obtain ⟨ao2, cap2, z0, g2, g3, g4⟩ := HLN.out _ k1; unfold maxLen at g4; have K2 := Lib.hid (And.intro k1 (And.intro k2 g2)); clear k1 k2 g2)
            | (go_at_call 27; (with_reducible refine (refsum_any' ao2 N cap2 (r.take N) _ htl.out hN7 (K2.out.2.2.take N)).mono ?_); rintro e3 w3 ⟨rfl, rfl⟩))
          go_ret3
          exact unf_bad HB.out ((H0.out.2.trans (K1.out.2.below H0.out.2.size (fun k hk => by omega))).trans (K2.out.2.1.below (Nat.le_trans H0.out.2.size K1.out.2.size) (fun k hk => by omega)))
end Go.Proofs.Ytggidllaodloiaa
