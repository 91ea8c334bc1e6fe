/-
  THE LAW PackTurned OF LAYER 2, WALKED.
-/
import Derived.Test.YtgodnlcjbfdkhaaPackY
import Derived.Test.YtgodnlcjbfdkhaaPackN
namespace Go.Proofs.Ytgodnlcjbfdkhaa
open Go Go.RowKit Go.WideShapes

/-- A frame that is cut, taken. -/
theorem unframe_cut (ao : Option Addr) (K c : Nat) (b : List UInt8) (w : World) (hb : b.length ≤ 4096) (hK : K < b.length + 8) (ho : Bts w ao (frame b)) (hc : K ≤ c) (hm : c ≤ maxLen) :
    Calls Try.prog 26 #[.slice ao K c] w fun e w' => ∃ v1 v2, e = .returned (.tuple #[v1, v2, .int .i64 4]) ∧ Below w.heap.size w w' := by
  refine (unframe_all ao K c ((frame b).take K) w (by rw [List.length_take, frame_len]; omega) (by omega) (ho.take K) hc hm).mono ?_
  rintro e w' ⟨bo, bc, ro, rc, rfl, hw, _, _⟩
  rw [cut_short b K hb hK]
  exact ⟨_, _, rfl, hw⟩
/-- What comes of a frame with a bit turned. -/
theorem unframe_turned (ao : Option Addr) (N c k : Nat) (b : List UInt8) (w : World) (hb : b.length ≤ 4096) (hN : b.length + 8 = N) (hk : k < 8 * N) (ho : Bts w ao (flip (frame b) k)) (hc : N ≤ c) (hm : c ≤ maxLen) :
    Calls Try.prog 26 #[.slice ao N c] w fun e w' => ∃ xo xn xc v2, ∃ r : Nat, e = .returned (.tuple #[.slice xo xn xc, v2, .int .i64 r]) ∧ Below w.heap.size w w' ∧ (32 ≤ k → r ≠ 0) ∧ (k < 32 → r = 0 → xn ≠ b.length) := by
  refine (unframe_all ao N c (flip (frame b) k) w (by rw [flip_length, frame_len]; omega) (by omega) ho hc hm).mono ?_
  rintro e w' ⟨bo, bc, ro, rc, rfl, hw, _, _⟩
  exact ⟨_, _, _, _, _, rfl, hw, fun h => turned_far b k hb h (by omega), fun h h0 => turned_near b k hb h h0⟩
set_option maxHeartbeats 4000000 in
set_option maxRecDepth 100000 in
theorem packTurned_any (ao : Option Addr) (n c : Nat) (b : List UInt8) (mo : Option Addr) (m d : Nat) (more : List UInt8) (cut bit : Int) (w : World) (hl : b.length = n) (hb : Bts w ao b) (hnl : n ≤ maxLen) (hl2 : more.length = m) (hb2 : Bts w mo more) (hml : m ≤ maxLen) :
    Calls Try.prog 8 #[.slice ao n c, .slice mo m d, .int .i64 cut, .int .i64 bit] w fun e w' => e = .returned (.bool true) ∧ Below w.heap.size w w' := by
  have HH := Lib.hid (And.intro hl (And.intro hb (And.intro hl2 hb2)))
  clear hl hb hl2 hb2
  unfold maxLen at hnl hml
  by_cases hn : 4096 < n
  · go_enter Try.func8, Try.ntmps8
    go_wp2_with (go_at_call 10; (with_reducible refine (awake _).mono ?_); rintro e1 w1 ⟨rfl, hw⟩; have HW := Lib.hid hw; clear hw)
    go_ret
    exact ⟨rfl, HW.out⟩
  by_cases hm : 1000 < m
  · go_enter Try.func8, Try.ntmps8
    go_wp2_with (go_at_call 10; (with_reducible refine (awake _).mono ?_); rintro e1 w1 ⟨rfl, hw⟩; have HW := Lib.hid hw; clear hw)
    go_ret
    exact ⟨rfl, HW.out⟩
  have hn4 : n ≤ 4096 := by omega
  have hb4 := Lib.hid (show b.length ≤ 4096 by rw [HH.out.1]; exact hn4)
  obtain ⟨N, hN⟩ : ∃ N, N = n + 8 := ⟨_, rfl⟩
  obtain ⟨Z, hZ⟩ : ∃ Z, Z = N + m := ⟨_, rfl⟩
  have HN := Lib.hid hN
  have HFL := Lib.hid (show (frame b).length = N by rw [frame_len, HH.out.1, hN])
  have HZ := Lib.hid (show (frame b ++ more).length = N + m by rw [List.length_append, frame_len, HH.out.1, HH.out.2.2.1, hN])
  have hN8 : 8 ≤ N := by omega
  have hN9 : N ≤ 4104 := by omega
  clear hN hZ Z
  obtain ⟨K, hK, hKN⟩ := mod_form cut N (by omega) (by omega)
  obtain ⟨k, hk, hkN⟩ := mod_form bit (8 * N) (by omega) (by omega)
  rw [show ((8 * N : Nat) : Int) = 8 * (N : Int) by omega] at hk
  have HKN := Lib.hid (show K < b.length + 8 by rw [HH.out.1]; have := HN.out; omega)
  have hu8 := IntWalk.u64_in (8 * (N : Int)) (by omega)
  have hk8 : (k : Int) / 8 < (N : Int) := by omega
  have hk0 : (0 : Int) ≤ (k : Int) / 8 := by omega
  have hs1 := str_same b
  have hs2 := str_same more
  go_enter Try.func8, Try.ntmps8
  go_wp2_with (first
    | (go_at_call 10; (with_reducible refine (awake _).mono ?_); rintro e1 w1 ⟨rfl, hw⟩; have HW := Lib.hid hw; clear hw)
    | (go_at_call 24; (with_reducible refine (frame_any ao n c N b _ HH.out.1 hn4 (HH.out.2.1.below HW.out) HN.out).mono ?_); rintro e2 w2 ⟨fo, fc, rfl, hw2, ho, hx⟩; obtain ⟨fb, foff, rfl, _⟩ := ho.row (by intro q; have := congrArg List.length q; rw [List.length_map, HFL.out, List.length_nil] at this; omega); have hfc := ho.le; have H2 := Lib.hid (And.intro (HW.out.trans (hw2.mono HW.out.size)) (And.intro ho (Nat.le_trans HW.out.size (hx _ rfl)))); clear hw2 ho hx)
    | (at_builtin; refine wpList_append' rfl (.tmp 37) (.tmp 38) el_u8 rfl rfl rfl (Own.alloc0 _ 1 _ _) (by rw [List.length_map, HFL.out, Nat.mul_one]) (H2.out.2.1.bts.below ((Below.refl _ _).alloc (Nat.le_refl _) _)) (one_cb _) (by unfold maxLen; omega) (by omega) ?_; intro xo xc w3 hx hch _ hx2; simp only [Nat.zero_add, List.nil_append] at hx; have hb3 := chg_new (Below.refl _ _) hch; have H3 := Lib.hid (And.intro hx (And.intro (new_blk (Below.refl _ _) hx2) hb3)); clear hx hch hx2 hb3)
    | (at_builtin; refine wpList_append' rfl (.tmp 39) (.tmp 40) el_u8 rfl rfl rfl H3.out.1 (m := m) (news := more.map cb) (by rw [List.length_map, HH.out.2.2.1, Nat.mul_one]) ((HH.out.2.2.2.below H2.out.1).below H3.out.2.2) (one_cb _) (by unfold maxLen; omega) (by omega) ?_; intro yo yc w4 hx hch _ hx2; rw [← List.map_append] at hx; have hb4 := chg_on H3.out.2.2 hch H3.out.2.2.size H3.out.2.1; have hyc := hx.le; have H4 := Lib.hid (And.intro hx hb4); clear hx hch hx2 hb4)
    | (go_at_call 26; (with_reducible refine (unframe_any yo (N + m) yc b more _ HZ.out hb4.out (by omega) H4.out.1.bts H4.out.1.le H4.out.1.max).mono ?_); rintro e5 w5 ⟨bo, bc, ro, rc, rfl, hw5, o1, o2, _, _⟩; rw [HH.out.1, HH.out.2.2.1]; have k1 := conv_bytes w5 Try.underlying22 Try.underlying5 Try.underlying9 bo _ bc b HH.out.1 o1.bts; have k2 := conv_bytes w5 Try.underlying22 Try.underlying5 Try.underlying9 ro _ rc more HH.out.2.2.1 o2.bts; have hB5 := (H4.out.2.trans (hw5.mono H4.out.2.size)); have k3 := conv_bytes w5 Try.underlying22 Try.underlying5 Try.underlying9 ao _ c b HH.out.1 ((HH.out.2.1.below H2.out.1).below hB5); have k4 := conv_bytes w5 Try.underlying22 Try.underlying5 Try.underlying9 mo _ d more HH.out.2.2.1 ((HH.out.2.2.2.below H2.out.1).below hB5); have H5 := Lib.hid hB5; clear hw5 o1 o2 hB5)
    | (go_at_call 26; (with_reducible refine (unframe_cut (some ⟨fb, foff, none⟩) K fc b _ hb4.out HKN.out (H2.out.2.1.bts.below H5.out) (by omega) H2.out.2.1.max).mono ?_); rintro e6 w6 ⟨v1, v2, rfl, hw6⟩; have H6 := Lib.hid hw6; clear hw6))
  rw [hk]
  have hown := (H2.out.2.1.keep (Chg.of_below H5.out (fun _ => False)) (fun _ _ h => h)).keep (Chg.of_below H6.out (fun _ => False)) (fun _ _ h => h)
  have hB6 := H2.out.1.trans ((H5.out.trans (H6.out.mono H5.out.size)).mono H2.out.1.size)
  have hflt : k / 8 < (frame b).length := by rw [HFL.out]; omega
  obtain ⟨v0, ev, cg, cf⟩ := own_at hown (k := k / 8) hflt
  have hfw := H2.out.2.2
  have HO := Lib.hid (And.intro ev (And.intro hown (And.intro hflt (And.intro hB6 hfw))))
  clear ev hown hflt hB6 hfw hk hK hu8 k1 k2 k3 k4 hs1 hs2
  go_region
  have hbt : Bts ((w6.setCell ⟨fb, foff + k / 8, none⟩ (.int .u8 (bits .xor .u8 (v0.toNat : Int) (2 ^ (k % 8) % 256)))).drew) (some ⟨fb, foff, none⟩) (flip (frame b) k) := by
    have e0 := HO.out.1
    rw [List.getElem?_eq_getElem HO.out.2.2.1] at e0
    have h1 := HO.out.2.1.set (k / 8) (cb ((frame b)[k / 8]'HO.out.2.2.1 ^^^ UInt8.ofNat (2 ^ (k % 8)))) (by have := HO.out.2.2.1; rw [HFL.out] at this; omega)
    rw [← flip_cells HO.out.2.2.1] at h1
    have h8 := shl8 k
    rw [Int.one_mul] at h8
    rw [h8, ← Option.some.inj e0, xor8]
    exact h1.drew.bts
  have hbw : Below w.heap.size w ((w6.setCell ⟨fb, foff + k / 8, none⟩ (.int .u8 (bits .xor .u8 (v0.toNat : Int) (2 ^ (k % 8) % 256)))).drew) := (HO.out.2.2.2.1.setCell HO.out.2.2.2.2 _).drew
  have HBT := Lib.hid (And.intro hbt hbw)
  clear hbt hbw
  generalize (w6.setCell ⟨fb, foff + k / 8, none⟩ (.int .u8 (bits .xor .u8 (v0.toNat : Int) (2 ^ (k % 8) % 256)))).drew = w7 at *
  have HLN := Lib.hid (show b.length + 8 = N by rw [HH.out.1]; exact HN.out.symm)
  go_wp2_with fail
  (with_reducible refine (unframe_turned (some ⟨fb, foff, none⟩) N fc k b _ hb4.out HLN.out hkN HBT.out.1 hfc H2.out.2.1.max).mono ?_)
  rintro e7 w8 ⟨xo, xn, xc, v3, r, rfl, hw8, hr1, hr2⟩
  rw [HH.out.1] at hr2
  have H8 := Lib.hid (HBT.out.2.trans (hw8.mono HBT.out.2.size))
  have HR := Lib.hid (And.intro hr1 hr2)
  clear hw8 hr1 hr2
  by_cases hr0 : r = 0
  · have hk32 : k < 32 := by
      rcases Nat.lt_or_ge k 32 with h | h
      · exact h
      · exact absurd hr0 (HR.out.1 h)
    have hx := HR.out.2 hk32 hr0
    have hxe : ((xn : Int) == (n : Int)) = false := by simp; omega
    have hxn : ((xn : Int) != (n : Int)) = true := by simp; omega
    have hki : (k : Int) < 32 := by omega
    subst hr0
    clear hx
    go_wp2
    go_ret
    exact ⟨rfl, H8.out⟩
  · have hr1 : ((r : Int) == 0) = false := by simp; omega
    have hr2 : ((r : Int) != 0) = true := by simp; omega
    clear hr0
    by_cases hk32 : k < 32
    · have hki : (k : Int) < 32 := by omega
      go_wp2
      go_ret
      exact ⟨rfl, H8.out⟩
    · have hki : decide ((k : Int) < 32) = false := by simp; omega
      go_wp2
      go_ret
      exact ⟨rfl, H8.out⟩
theorem packTurned_in (W : World) (base : Nat) (v0 v1 v2 v3 : Value) (k0 : Value.okWide Try.prog W .any base 22 v0) (k1 : Value.okWide Try.prog W .any base 22 v1) (k2 : Value.okWide Try.prog W .any base 3 v2) (k3 : Value.okWide Try.prog W .any base 3 v3)
    (r0 : Rd Try.prog W 22 v0.cells.toList) (r1 : Rd Try.prog W 22 v1.cells.toList) (r2 : Rd Try.prog W 3 v2.cells.toList) (r3 : Rd Try.prog W 3 v3.cells.toList) :
    Calls Try.prog 8 #[v0, v1, v2, v3] W fun e w' => e = .returned (.bool true) ∧ Below W.heap.size W w' := by
  obtain ⟨ao, bs, c, rfl, h1, h2, h3⟩ := in_bytesC Try.underlying22 Try.underlying5 (by kernel_rfl) k0 r0
  obtain ⟨bo, cs, d, rfl, g1, g2, g3⟩ := in_bytesC Try.underlying22 Try.underlying5 (by kernel_rfl) k1 r1
  obtain ⟨x, rfl, _, _⟩ := in_i64 Try.underlying3 k2 r2
  obtain ⟨y, rfl, _, _⟩ := in_i64 Try.underlying3 k3 r3
  exact packTurned_any ao _ c bs bo _ d cs x y W rfl h1 (Nat.le_trans h2 h3) rfl g1 (Nat.le_trans g2 g3)
end Go.Proofs.Ytgodnlcjbfdkhaa
