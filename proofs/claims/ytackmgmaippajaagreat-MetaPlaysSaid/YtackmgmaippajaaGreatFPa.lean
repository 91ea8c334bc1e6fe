/-
  JOINED BY fam.py out of: PackH.
-/
import Derived.Test.YtackmgmaippajaaGreatFP
-- part PackH
namespace Go.Proofs.YtackmgmaippajaaGreat
set_option maxRecDepth 100000
open Go Go.RowKit

/-! ### numbers of bytes -/
theorem ube_inj : ∀ (l m : List UInt8), l.length = m.length → ube l = ube m → l = m
  | [], [], _, _ => rfl
  | [], _ :: _, h, _ => by simp at h
  | _ :: _, [], h, _ => by simp at h
  | c :: l, d :: m, hl, he => by
    have hl' : l.length = m.length := by simpa using hl
    rw [ube_cons, ube_cons, ← hl'] at he
    have h1 := ube_lt l
    have h2 := ube_lt m
    rw [← hl'] at h2
    have hM : 0 < 256 ^ l.length := Nat.pow_pos (by decide)
    generalize 256 ^ l.length = M at *
    have e1 : c.toNat = d.toNat := by
      have := congrArg (· / M) he
      simp only [Nat.add_comm (_ * M), Nat.add_mul_div_right _ _ hM, Nat.div_eq_of_lt h1, Nat.div_eq_of_lt h2, Nat.zero_add] at this
      exact this
    rw [e1] at he
    rw [ube_inj l m hl' (by omega), UInt8.toNat_inj.1 e1]
theorem be_ube (k : Nat) (l : List UInt8) (h : l.length = k) : be k (ube l) = l :=
  ube_inj _ _ (by rw [be_length, h]) (by rw [ube_be, Nat.mod_eq_of_lt (h ▸ ube_lt l)])
/-- What begins bytes: two numbers of four bytes. -/
theorem bytes_eight (bs : List UInt8) (h : 8 ≤ bs.length) : bs = be 4 (ube (bs.take 4)) ++ (be 4 (ube ((bs.drop 4).take 4)) ++ bs.drop 8) := by
  rw [be_ube 4 _ (by rw [List.length_take]; omega), be_ube 4 _ (by rw [List.length_take, List.length_drop]; omega), show bs.drop 8 = (bs.drop 4).drop 4 by rw [List.drop_drop], List.take_append_drop, List.take_append_drop]
/-- What a frame's bytes are: the body, what is left, an error's number. -/
def unf (bs : List UInt8) : List UInt8 × List UInt8 × Nat :=
  if bs.length < 8 then ([], [], 4) else
  if 4096 < ube (bs.take 4) then ([], [], 3) else
  if (bs.drop 8).length < ube (bs.take 4) then ([], [], 4) else
  if (crc ((bs.drop 8).take (ube (bs.take 4)))).toNat = ube ((bs.drop 4).take 4) then ((bs.drop 8).take (ube (bs.take 4)), (bs.drop 8).drop (ube (bs.take 4)), 0) else ([], [], 7)
theorem unf_code (bs : List UInt8) : (unf bs).2.2 ≤ 7 := by
  unfold unf; repeat' split
  all_goals simp
theorem unf_len1 (bs : List UInt8) : (unf bs).1.length ≤ bs.length := by
  unfold unf; repeat' split
  all_goals simp
  omega
theorem unf_len2 (bs : List UInt8) : (unf bs).2.1.length ≤ bs.length := by
  unfold unf; repeat' split
  all_goals simp
set_option maxHeartbeats 1000000 in
set_option maxRecDepth 100000 in
theorem frame_long (ao : Option Addr) (n c : Nat) (w : World) (hn : 4096 < n) (hm : n ≤ 1000000) :
    Calls Tryz.prog 87 #[.slice ao n c] w fun e w' => e = .returned (.tuple #[.slice none 0 0, .int .i64 3]) ∧ w = w' := by
  go_enter Tryz.func87, Tryz.ntmps87
  go_wp2
  go_ret2
  exact ⟨rfl, rfl⟩
set_option maxHeartbeats 4000000 in
set_option maxRecDepth 100000 in
theorem unframe_bad (ao : Option Addr) (n c N S : Nat) (r : List UInt8) (code : Int) (w : World) (hl : (be 4 N ++ (be 4 S ++ r)).length = n) (hN : N < 4294967296) (hS : S < 4294967296) (hn : n ≤ 1000000) (hb : Bts w ao (be 4 N ++ (be 4 S ++ r))) (hnc : n ≤ c) (hm : c ≤ maxLen)
    (h : (4096 < N ∧ code = 3) ∨ (N ≤ 4096 ∧ r.length < N ∧ code = 4) ∨ (N ≤ 4096 ∧ N ≤ r.length ∧ (crc (r.take N)).toNat ≠ S ∧ code = 7)) :
    Calls Tryz.prog 63 #[.slice ao n c] w fun e w' => e = .returned (.tuple #[.slice none 0 0, .slice none 0 0, .int .i64 code]) ∧ Below w.heap.size w w' := by
  have hrl : r.length + 8 = n := by rw [← hl]; simp [be_length]; omega
  have hbel : ∀ (o : Obj), Below w.heap.size w (w.alloc o) := fun o => (Below.refl _ w).alloc (Nat.le_refl _) o
  have h0 : RdrAt (w.alloc (.cells #[.slice ao n c] 182)) w.heap.size (ao.map (·.block)) (be 4 N ++ (be 4 S ++ r)) := by
    refine ⟨ao, c, ?_, hb.below (hbel _), by omega, hm, fun hz a ha => ?_⟩
    · rw [hl]; exact heap_top _ _
    · subst ha
      exact ⟨rfl, by have := bts_lt hb hz a rfl; omega⟩
  have H0 := Lib.hid h0
  have HL := Lib.hid (And.intro (show (be 4 S ++ r).length ≤ 70368744177664 by simp [be_length]; omega) (show r.length ≤ 70368744177664 by omega))
  have hn8i : ¬ (n : Int) < 8 := by omega
  have hb0 := Lib.hid ((Below.refl _ w).alloc (Nat.le_refl _) (.cells #[.slice ao n c] 182))
  clear h0 hb hbel hl
  have hrn : r.length ≤ 1000000 := by omega
  have hu1 := IntWalk.u64_in (r.length : Int) (by omega)
  rcases h with ⟨h1, rfl⟩ | ⟨h1, h2, rfl⟩ | ⟨h1, h2, h3, rfl⟩
  · go_enter Tryz.func63, Tryz.ntmps63
    go_wp2_with (first
      | (go_at_call 102; (with_reducible refine (ru32_put w.heap.size _ N _ _ H0.out hN HL.out.1).mono ?_); rintro e1 w1 ⟨rfl, h1, h2⟩; have H1 := Lib.hid (And.intro h1 h2); clear h1 h2)
      | (go_at_call 102; (with_reducible refine (ru32_put w.heap.size _ S _ _ H1.out.1 hS HL.out.2).mono ?_); rintro e2 w2 ⟨rfl, h1, h2⟩; have H2 := Lib.hid (And.intro h1 h2); clear h1 h2))
    go_ret3
    exact ⟨rfl, (hb0.out.trans (H1.out.2.below hb0.out.size (fun k hk => by omega))).trans (H2.out.2.below (Nat.le_trans hb0.out.size H1.out.2.size) (fun k hk => by omega))⟩
  · go_enter Tryz.func63, Tryz.ntmps63
    go_wp2_with (first
      | (go_at_call 102; (with_reducible refine (ru32_put w.heap.size _ N _ _ H0.out hN HL.out.1).mono ?_); rintro e1 w1 ⟨rfl, h1, h2⟩; have H1 := Lib.hid (And.intro h1 h2); clear h1 h2)
      | (go_at_call 102; (with_reducible refine (ru32_put w.heap.size _ S _ _ H1.out.1 hS HL.out.2).mono ?_); rintro e2 w2 ⟨rfl, h1, h2⟩; have hz := h1; obtain ⟨ro0, rc0, hz1, -⟩ := hz; have hz2 := heap_cell hz1 0; simp at hz2; have H2 := Lib.hid (And.intro h1 h2); clear h1 h2 hz1))
    go_ret3
    exact ⟨rfl, (hb0.out.trans (H1.out.2.below hb0.out.size (fun k hk => by omega))).trans (H2.out.2.below (Nat.le_trans hb0.out.size H1.out.2.size) (fun k hk => by omega))⟩
  · have h7 : r.length ≤ 140737488351232 := by omega
    have htl : (r.take N).length = N := by rw [List.length_take]; omega
    have h3i : ¬ (((crc (r.take N)).toNat : Int) = (S : Int)) := by omega
    have h2i : ¬ ((r.length : Int) < (N : Int)) := by omega
    go_enter Tryz.func63, Tryz.ntmps63
    go_wp2_with (first
      | (go_at_call 102; (with_reducible refine (ru32_put w.heap.size _ N _ _ H0.out hN HL.out.1).mono ?_); rintro e1 w1 ⟨rfl, h1, h2⟩; have H1 := Lib.hid (And.intro h1 h2); clear h1 h2)
      | (go_at_call 102; (with_reducible refine (ru32_put w.heap.size _ S _ _ H1.out.1 hS HL.out.2).mono ?_); rintro e2 w2 ⟨rfl, h1, h2⟩; have hz := h1; obtain ⟨ro0, rc0, hz1, -⟩ := hz; have hz2 := heap_cell hz1 0; simp at hz2; have H2 := Lib.hid (And.intro h1 h2); clear h1 h2 hz1)
      | (go_at_call 103; (with_reducible refine (take_any w.heap.size _ r N _ H2.out.1 h2 h7).mono ?_); rintro e3 w3 ⟨eo, tc, rfl, k1, _, _, _, k5⟩; have H3 := Lib.hid (And.intro k1 k5); clear k1 k5)
      | (go_at_call 104; (with_reducible refine (sum_any' eo _ tc (r.take N) _ htl (by omega) H3.out.1).mono ?_); rintro e4 w4 ⟨rfl, rfl⟩))
    go_ret3
    have b1 := hb0.out.trans (H1.out.2.below hb0.out.size (fun k hk => by omega))
    have b2 := b1.trans (H2.out.2.below b1.size (fun k hk => by omega))
    exact ⟨rfl, b2.trans (H3.out.2.below b2.size (fun k hk => by omega))⟩
/-- Unframe at any bytes. -/
theorem unframe_all (ao : Option Addr) (n c : Nat) (bs : List UInt8) (w : World) (hl : bs.length = n) (hn : n ≤ 1000000) (hb : Bts w ao bs) (hnc : n ≤ c) (hm : c ≤ maxLen) :
    Calls Tryz.prog 63 #[.slice ao n c] w fun e w' => ∃ bo bc ro rc, e = .returned (.tuple #[.slice bo (unf bs).1.length bc, .slice ro (unf bs).2.1.length rc, .int .i64 ((unf bs).2.2 : Nat)]) ∧ Below w.heap.size w w' ∧ Bts w' bo (unf bs).1 ∧ Bts w' ro (unf bs).2.1 := by
  by_cases h8 : bs.length < 8
  · have hu : unf bs = ([], [], 4) := by simp [unf, h8]
    rw [hu]
    refine (unframe_short ao n c w (by omega)).mono ?_
    rintro e w' ⟨rfl, rfl⟩
    exact ⟨none, 0, none, 0, rfl, Below.refl _ _, Bts.nil _ _, Bts.nil _ _⟩
  · have e8 := bytes_eight bs (by omega)
    have hN := ube_lt (bs.take 4)
    have hS := ube_lt ((bs.drop 4).take 4)
    rw [List.length_take, show min 4 bs.length = 4 by omega] at hN
    rw [List.length_take, List.length_drop, show min 4 (bs.length - 4) = 4 by omega] at hS
    have hbad : ∀ code : Nat, ((4096 < ube (bs.take 4) ∧ (code : Int) = 3) ∨ (ube (bs.take 4) ≤ 4096 ∧ (bs.drop 8).length < ube (bs.take 4) ∧ (code : Int) = 4) ∨ (ube (bs.take 4) ≤ 4096 ∧ ube (bs.take 4) ≤ (bs.drop 8).length ∧ (crc ((bs.drop 8).take (ube (bs.take 4)))).toNat ≠ ube ((bs.drop 4).take 4) ∧ (code : Int) = 7)) → unf bs = ([], [], code) → 
        Calls Tryz.prog 63 #[.slice ao n c] w fun e w' => ∃ bo bc ro rc, e = .returned (.tuple #[.slice bo (unf bs).1.length bc, .slice ro (unf bs).2.1.length rc, .int .i64 ((unf bs).2.2 : Nat)]) ∧ Below w.heap.size w w' ∧ Bts w' bo (unf bs).1 ∧ Bts w' ro (unf bs).2.1 := by
      intro code h hu
      rw [hu]
      refine (unframe_bad ao n c _ _ (bs.drop 8) code w (by rw [← e8]; exact hl) hN hS hn (by rw [← e8]; exact hb) hnc hm h).mono ?_
      rintro e w' ⟨rfl, hw⟩
      exact ⟨none, 0, none, 0, rfl, hw, Bts.nil _ _, Bts.nil _ _⟩
    by_cases h1 : 4096 < ube (bs.take 4)
    · exact hbad 3 (.inl ⟨h1, rfl⟩) (by simp [unf, h8, h1])
    · by_cases h2 : (bs.drop 8).length < ube (bs.take 4)
      · exact hbad 4 (.inr (.inl ⟨by omega, h2, rfl⟩)) (by rw [unf, if_neg h8, if_neg h1, if_pos h2])
      · by_cases h3 : (crc ((bs.drop 8).take (ube (bs.take 4)))).toNat = ube ((bs.drop 4).take 4)
        · have hu : unf bs = ((bs.drop 8).take (ube (bs.take 4)), (bs.drop 8).drop (ube (bs.take 4)), 0) := by rw [unf, if_neg h8, if_neg h1, if_neg h2, if_pos h3]
          have hxl : ((bs.drop 8).take (ube (bs.take 4))).length = ube (bs.take 4) := by rw [List.length_take]; omega
          have ef : bs = frame ((bs.drop 8).take (ube (bs.take 4))) ++ (bs.drop 8).drop (ube (bs.take 4)) := by
            unfold frame
            rw [hxl, h3, List.append_assoc, List.take_append_drop, List.append_assoc, ← e8]
          rw [hu]
          refine (unframe_any ao n c _ _ w (by rw [← ef]; exact hl) (by rw [hxl]; omega) hn (by rw [← ef]; exact hb) hnc hm).mono ?_
          rintro e w' ⟨bo, bc, ro, rc, rfl, hw, o1, o2, _, _⟩
          exact ⟨bo, bc, ro, rc, rfl, hw, o1.bts, o2.bts⟩
        · exact hbad 7 (.inr (.inr ⟨by omega, by omega, h3, rfl⟩)) (by rw [unf, if_neg h8, if_neg h1, if_neg h2, if_neg h3])
/-! ### the document's reader -/
def RefAt (w : World) (p : Nat) (bs : List UInt8) (code : Int) : Prop :=
  ∃ ao cap, w.heap[p]? = some (.cells #[.slice ao bs.length cap, .int .i64 code] 123 (0, 0)) ∧ Bts w ao bs ∧ bs.length ≤ cap ∧ cap ≤ maxLen ∧ (bs ≠ [] → ∀ a, ao = some a → a.block ≠ p)
theorem mul256 (X : Nat) (y : UInt8) (_h : X < 72057594037927936) : ((X : Int) * 256) + (y.toNat : Int) = ((X * 256 + y.toNat : Nat) : Int) := by omega
set_option maxHeartbeats 1000000 in
set_option maxRecDepth 100000 in
theorem refnum_any (p : Nat) (bs : List UInt8) (n : Nat) (N : Int) (hN : N = (n : Int)) (w : World) (h : RefAt w p bs 0) (hn : n ≤ bs.length) (h8 : n ≤ 8) (hb : bs.length ≤ 140737488351232) :
    Calls Tryz.prog 59 #[.pointer (some ⟨p, 0, none⟩), .int .i64 N] w fun e w' => e = .returned (.int .u64 (ube (bs.take n) : Int)) ∧ RefAt w' p (bs.drop n) 0 ∧ Chg (· = p) w w' := by
  subst hN
  obtain ⟨ao, cap, h1, h2, h3, h4, h5⟩ := h
  have z0 := heap_cell h1 0
  have z1 := heap_cell h1 1
  have z2 := heap_frozen h1 0
  simp at z0 z1
  have H := Lib.hid (And.intro h1 (And.intro h2 (And.intro h3 (And.intro h4 h5))))
  clear h1 h2 h5
  unfold maxLen at h4
  have hbt : ∀ u : Value, Bts (w.setCell ⟨p, 0, none⟩ u) ao bs := by
    intro u
    by_cases hz : bs = []
    · rw [hz]; exact Bts.nil _ _
    · exact (Chg.one _ _ _ _).row H.out.2.1 (fun a ha => H.out.2.2.2.2 hz a ha)
  have HB := Lib.hid hbt
  clear hbt
  have hni : ¬ (bs.length : Int) < (n : Int) := by omega
  have hnl : (n : Int) ≤ (bs.length : Int) := by omega
  have hle : ∀ k : Nat, k < n → (k : Int) < (bs.length : Int) := by intro k hk; omega
  go_enter Tryz.func59, Tryz.ntmps59
  go_wp2
  go_loopg [5, 6] n (fun g x i wr => wr = w ∧ ∃ k : Nat, g + k = n ∧ x = .int .u64 (ube (bs.take k) : Int) ∧ i = .int .i64 k)
  case atStart => exact ⟨rfl, 0, by omega, rfl, rfl⟩
  case round =>
    obtain ⟨rfl, k, hk, rfl, rfl⟩ := hrel
    by_cases hlt : k < n
    · have hkx : k < bs.length := by omega
      obtain ⟨b, off, rfl, hcell⟩ := H.out.2.1.at (by omega)
      have h1 := hcell k hkx
      have HT := Lib.hid (show ube (bs.take (k + 1)) = ube (bs.take k) * 256 + bs[k].toNat by rw [List.take_succ_eq_append_getElem hkx, ube_snoc])
      have hu := ube_lt (bs.take k)
      rw [List.length_take, Nat.min_eq_left (by omega)] at hu
      have hu2 : ube (bs.take k) < 72057594037927936 := Nat.lt_of_lt_of_le hu (Nat.pow_le_pow_right (n := 256) (i := k) (j := 7) (by decide) (by omega))
      clear hu
      have hy := (bs[k]).toNat_lt
      generalize ube (bs.take k) = X at *
      generalize bs[k] = y at *
      have HM := Lib.hid (mul256 X y hu2)
      have hi0 := IntWalk.u64_in (y.toNat : Int) (by omega)
      have hi1 := IntWalk.u64_in ((X : Int) * 256) (by omega)
      have hi2 := IntWalk.u64_in ((X : Int) * 256 + (y.toNat : Int)) (by omega)
      clear hcell HB
      go_wp2
      go_roundg (gk - 1)
      case measure => omega
      case rel => exact ⟨rfl, k + 1, by omega, by rw [HT.out, ← HM.out], by go_num⟩
    · obtain rfl : k = n := by omega
      clear hle
      by_cases hc : cap = k
      · go_wp2
        go_ret
        refine ⟨rfl, ⟨ao, 0, ?_, ?_, by rw [List.length_drop]; omega, by simp, fun hx => ?_⟩, Chg.one _ _ _ _⟩
        · rw [heap_set H.out.1]; simp; try omega
        · rw [List.drop_of_length_le (by omega)]; exact Bts.nil _ _
        · exact absurd (List.drop_of_length_le (by omega)) hx
      · go_wp2
        go_ret
        refine ⟨rfl, ⟨ao.map (fun x => x.add k), cap - k, ?_, ?_, by rw [List.length_drop]; omega, by unfold maxLen; omega, ?_⟩, Chg.one _ _ _ _⟩
        · rw [heap_set H.out.1]; simp
        · exact (HB.out _).drop' k
        · intro hx a ha
          have hz : bs ≠ [] := by rintro rfl; simp at hx
          cases ao with
          | none => cases ha
          | some a0 => cases ha; rw [block_add]; exact H.out.2.2.2.2 hz a0 rfl
end Go.Proofs.YtackmgmaippajaaGreat
