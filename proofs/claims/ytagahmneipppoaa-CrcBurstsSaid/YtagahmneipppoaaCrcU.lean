/-
  THE LAW CrcBursts OF LAYER 1, WALKED.
-/
import Derived.Test.YtagahmneipppoaaCrc
import Derived.Test.YtagahmneipppoaaCrcB
import Derived.WalkLawsBesides
import Derived.Deep.QuietTactic
import Derived.BigQuiet
namespace Go.Proofs.Ytagahmneipppoaa
open Go Go.RowKit Go.WideShapes

theorem cb_mod (n : Nat) : (Value.int .u8 ((n : Int) % 256)) = cb (UInt8.ofNat n) := by
  simp only [cb, UInt8.toNat_ofNat']; congr 1
def le4 (s : BitVec 32) : List UInt8 := [UInt8.ofNat s.toNat, UInt8.ofNat (s.toNat / 256), UInt8.ofNat (s.toNat / 65536), UInt8.ofNat (s.toNat / 16777216)]
theorem k_form (at_ : Int) (n : Nat) (hn : n ≤ 3000) : ∃ K : Nat, Go.RowKit.wrap64 ((IntKind.u64.wrap at_).tmod (8 * ((n : Int) + 4))) = (K : Int) ∧ K < 8 * (n + 4) := by
  have h1 : 0 ≤ IntKind.u64.wrap at_ := by rw [IntKind.wrap_u64]; omega
  refine ⟨((IntKind.u64.wrap at_).tmod (8 * ((n : Int) + 4))).toNat, ?_, ?_⟩
  · rw [Int.tmod_eq_emod_of_nonneg h1]
    have := Int.emod_nonneg (IntKind.u64.wrap at_) (show 8 * ((n : Int) + 4) ≠ 0 by omega)
    have := Int.emod_lt_of_pos (IntKind.u64.wrap at_) (show 0 < 8 * ((n : Int) + 4) by omega)
    unfold Go.RowKit.wrap64; omega
  · rw [Int.tmod_eq_emod_of_nonneg h1]
    have := Int.emod_nonneg (IntKind.u64.wrap at_) (show 8 * ((n : Int) + 4) ≠ 0 by omega)
    have := Int.emod_lt_of_pos (IntKind.u64.wrap at_) (show 0 < 8 * ((n : Int) + 4) by omega)
    omega
theorem le4_row (s : BitVec 32) (w : World) (fz : Nat × Nat) :
    Row (w.alloc (.cells #[.int .u8 ((s.toNat : Int) % 256), .int .u8 ((s.toNat : Int) / 256 % 256), .int .u8 ((s.toNat : Int) / 65536 % 256), .int .u8 ((s.toNat : Int) / 16777216)] 5 fz)) (some ⟨w.heap.size, 0, none⟩) ((le4 s).map cb) := by
  refine Bts.alloc w _ _ fz (le4 s) ?_
  have h4 : (s.toNat : Int) / 16777216 = ((s.toNat / 16777216 : Nat) : Int) % 256 := by have := s.isLt; omega
  have h2 : (s.toNat : Int) / 256 % 256 = ((s.toNat / 256 : Nat) : Int) % 256 := by omega
  have h3 : (s.toNat : Int) / 65536 % 256 = ((s.toNat / 65536 : Nat) : Int) % 256 := by omega
  rw [h4, h2, h3, cb_mod, cb_mod, cb_mod, cb_mod]
  rfl
theorem burst_chg {w w2 w3 : World} {o : Obj} {xo : Option Addr} (h1 : Below w.heap.size w w2) (h2 : Chg (fun k => ∃ a, xo = some a ∧ a.block = k) (w2.alloc o) w3) (hx : ∀ a', xo = some a' → w.heap.size ≤ a'.block) : Below w.heap.size w w3 :=
  chg_on (h1.alloc h1.size o) h2 (by have := h1.size; simp; omega) hx
theorem burst_blk {B : Nat} {w2 : World} {o : Obj} {xo yo : Option Addr} (h1 : B ≤ w2.heap.size) (hx : ∀ a', xo = some a' → B ≤ a'.block) (h : ∀ a', yo = some a' → xo = some a' ∨ (w2.alloc o).heap.size ≤ a'.block) : ∀ a', yo = some a' → B ≤ a'.block := by
  intro a' ha
  rcases h a' ha with e | e
  · exact hx a' e
  · simp at e; omega
theorem shl8 (n : Nat) : (1 * (2 : Int) ^ (n % 8)) % 256 = ((UInt8.ofNat (2 ^ (n % 8))).toNat : Int) := by
  have : ∀ r : Fin 8, (1 * (2 : Int) ^ r.val) % 256 = ((UInt8.ofNat (2 ^ r.val)).toNat : Int) := by decide
  exact this ⟨n % 8, Nat.mod_lt _ (by decide)⟩
theorem burst_cell {w : World} {b off n c K m : Nat} {l : List UInt8} (hl : l.length = n) (h : Own w 1 (some ⟨b, off, none⟩) n c (l.map cb)) (hk : K + m < 8 * n) :
    ∃ v : UInt8, l[(K + m) / 8]? = some v ∧ w.cell? ⟨b, off + (K + m) / 8, none⟩ = some (.int .u8 (v.toNat : Int)) ∧ w.frozen? ⟨b, off + (K + m) / 8, none⟩ = false := by
  have hi : (K + m) / 8 < l.length := by omega
  have := h.cellAt (k := (K + m) / 8) (v := cb l[(K + m) / 8]) (by simp [hi])
  exact ⟨_, List.getElem?_eq_getElem hi, this⟩
theorem burst_end {w : World} {b off n c : Nat} {l : List UInt8} (hl : l.length = n + 4) (h : Own w 1 (some ⟨b, off, none⟩) (n + 4) c (l.map cb)) :
    ∃ x0 x1 x2 x3 : UInt8, l = l.take n ++ [x0, x1, x2, x3] ∧ w.cell? ⟨b, off + n, none⟩ = some (.int .u8 (x0.toNat : Int)) ∧ w.cell? ⟨b, off + (n + 1), none⟩ = some (.int .u8 (x1.toNat : Int)) ∧
      w.cell? ⟨b, off + (n + 2), none⟩ = some (.int .u8 (x2.toNat : Int)) ∧ w.cell? ⟨b, off + (n + 3), none⟩ = some (.int .u8 (x3.toNat : Int)) := by
  have key : ∀ j, (hj : j < l.length) → w.cell? ⟨b, off + j, none⟩ = some (.int .u8 (l[j].toNat : Int)) := fun j hj => (h.cellAt (k := j) (v := cb l[j]) (by simp [hj])).1
  refine ⟨l[n], l[n + 1], l[n + 2], l[n + 3], ?_, key _ _, key _ _, key _ _, key _ _⟩
  apply List.ext_getElem?
  intro j
  by_cases h1 : j < n
  · rw [List.getElem?_append_left (by simp; omega), List.getElem?_take, if_pos h1]
  · rw [List.getElem?_append_right (by simp; omega), List.length_take, Nat.min_eq_left (by omega)]
    obtain ⟨i, rfl⟩ : ∃ i, j = n + i := ⟨j - n, by omega⟩
    rw [Nat.add_sub_cancel_left]
    match i with
    | 0 => simp
    | 1 => simp
    | 2 => simp
    | 3 => simp
    | i + 4 => simp; omega
theorem word_bit (word : BitVec 32) (m : Nat) : (bits .and .u32 ((word.toNat : Int) / (2 ^ m)) 1 == 1) = word.getLsbD m := by
  have e : (word.toNat : Int) / (2 : Int) ^ m = ((word >>> m).toNat : Int) := by
    rw [BitVec.toNat_ushiftRight, Nat.shiftRight_eq_div_pow]; simp
  rw [e, show (1 : Int) = ((1#32 : BitVec 32).toNat : Int) from rfl, and32, int32_inj]
  have e4 : (word >>> m) &&& 1#32 = bif word.getLsbD m then 1#32 else 0#32 := by
    apply BitVec.eq_of_getLsbD_eq
    intro i hi
    rw [BitVec.getLsbD_and, BitVec.getLsbD_ushiftRight]
    by_cases h0 : i = 0
    · subst h0; simp; cases word.getLsbD m <;> rfl
    · have h1 : (1#32).getLsbD i = false := by simp [h0]
      rw [h1]; cases word.getLsbD m <;> simp [h0]
  rw [e4]
  cases word.getLsbD m <;> rfl
theorem or32 (x y : BitVec 32) : bits .or .u32 (x.toNat : Int) (y.toNat : Int) = ((x ||| y).toNat : Int) := by
  show IntKind.u32.wrap (((BitVec.ofInt 32 (x.toNat : Int)) ||| (BitVec.ofInt 32 (y.toNat : Int))).toNat : Int) = _
  rw [ofInt_toNat, ofInt_toNat, wrap_bv32]
theorem or_sum (p q n : Nat) (hp : p < 2 ^ n) (h : p + q * 2 ^ n < 4294967296) : bits .or .u32 (p : Int) ((q * 2 ^ n : Nat) : Int) = ((p + q * 2 ^ n : Nat) : Int) := by
  have e1 : (p : Int) = ((BitVec.ofNat 32 p).toNat : Int) := by rw [BitVec.toNat_ofNat, Nat.mod_eq_of_lt (by omega)]
  have e2 : ((q * 2 ^ n : Nat) : Int) = ((BitVec.ofNat 32 (q * 2 ^ n)).toNat : Int) := by rw [BitVec.toNat_ofNat, Nat.mod_eq_of_lt (by omega)]
  rw [e1, e2, or32]
  congr 1
  rw [BitVec.toNat_or, BitVec.toNat_ofNat, BitVec.toNat_ofNat, Nat.mod_eq_of_lt (by omega), Nat.mod_eq_of_lt (by omega)]
  apply Nat.eq_of_testBit_eq
  intro i
  rw [Nat.testBit_or, Nat.add_comm, Nat.mul_comm q, Nat.testBit_two_pow_mul_add q hp, Nat.testBit_two_pow_mul]
  by_cases hi : i < n
  · have : ¬ n ≤ i := by omega
    simp [hi, this]
  · have h2 : n ≤ i := by omega
    have h3 : p.testBit i = false := Nat.testBit_lt_two_pow (Nat.lt_of_lt_of_le hp (Nat.pow_le_pow_right (by decide) h2))
    simp [hi, h2, h3]
theorem told_form (a b c d : UInt8) : bits .or .u32 (bits .or .u32 (bits .or .u32 ((a.toNat : Int) % 4294967296) ((b.toNat : Int) % 4294967296 * 256 % 4294967296)) ((c.toNat : Int) % 4294967296 * 65536 % 4294967296)) ((d.toNat : Int) % 4294967296 * 16777216 % 4294967296) = ((word4 a b c d).toNat : Int) := by
  have ha := a.toNat_lt
  have hb := b.toNat_lt
  have hc := c.toNat_lt
  have hd := d.toNat_lt
  have e0 : (a.toNat : Int) % 4294967296 = (a.toNat : Int) := by omega
  have e1 : (b.toNat : Int) % 4294967296 * 256 % 4294967296 = ((b.toNat * 2 ^ 8 : Nat) : Int) := by omega
  have e2 : (c.toNat : Int) % 4294967296 * 65536 % 4294967296 = ((c.toNat * 2 ^ 16 : Nat) : Int) := by omega
  have e3 : (d.toNat : Int) % 4294967296 * 16777216 % 4294967296 = ((d.toNat * 2 ^ 24 : Nat) : Int) := by omega
  rw [e0, e1, e2, e3, or_sum _ _ 8 (by omega) (by omega), or_sum _ _ 16 (by omega) (by omega), or_sum _ _ 24 (by omega) (by omega)]
  unfold word4
  rw [BitVec.toNat_ofNat]
  omega
theorem flip_cells {l : List UInt8} {n : Nat} (hn : n / 8 < l.length) : (flip l n).map cb = (l.map cb).set (n / 8) (cb (l[n / 8] ^^^ UInt8.ofNat (2 ^ (n % 8)))) := by
  apply List.ext_getElem?
  intro j
  unfold flip
  rw [List.getElem?_map, List.getElem?_modify, List.getElem?_set]
  by_cases e : n / 8 = j
  · subst e; simp [hn]
  · simp [e]
set_option maxRecDepth 100000 in
set_option maxHeartbeats 1000000 in
theorem crcBursts_walk (ao : Option Addr) (c : Nat) (bs : List UInt8) (at_ : Int) (word : BitVec 32) (w : World) (hb : Bts w ao bs) (ha : -9223372036854775808 ≤ at_ ∧ at_ ≤ 9223372036854775807) :
    Calls Try.prog 5 #[.slice ao bs.length c, .int .i64 at_, .int .u32 (word.toNat : Int)] w fun e w' => e = .returned (.bool true) ∧ Below w.heap.size w w' := by
  have HB := Lib.hid hb; clear hb
  by_cases hl : 3000 < bs.length
  · have HL : decide (3000 < (bs.length : Int)) = true := by simpa using (by omega : (3000 : Int) < bs.length)
    go_enter Try.func5, Try.ntmps5
    go_wp2_with (go_at_call 7; refine (awake _).mono ?_; rintro e w1 ⟨rfl, hb⟩; have HB1 := Lib.hid hb; clear hb)
    go_ret
    exact ⟨rfl, HB1.out⟩
  have HL : decide (3000 < (bs.length : Int)) = false := by simpa using (by omega : (bs.length : Int) ≤ 3000)
  have hl' : bs.length ≤ 3000 := by omega
  clear hl
  by_cases h0 : ((word.toNat : Int) == 0) = true
  · go_enter Try.func5, Try.ntmps5
    go_wp2_with (go_at_call 7; refine (awake _).mono ?_; rintro e w1 ⟨rfl, hb⟩; have HB1 := Lib.hid hb; clear hb)
    go_ret
    exact ⟨rfl, HB1.out⟩
  · have h0' : ((word.toNat : Int) == 0) = false := by simpa using h0
    clear h0
    go_enter Try.func5, Try.ntmps5
    go_wp2_with (first
      | (go_at_call 7; refine (awake _).mono ?_; rintro e w1 ⟨rfl, hb⟩; have HB1 := Lib.hid hb; clear hb)
      | (go_at_call 8; (with_reducible refine (sum_any' ao _ _ bs _ rfl (by omega) ((HB.out.below HB1.out))).mono ?_); rintro e w' ⟨rfl, rfl⟩)
      | (at_builtin; refine wpList_append' rfl (.tmp 26) (.tmp 27) el_u8 rfl rfl rfl (Own.alloc0 _ 1 _ _) (by simp) (((HB.out.below HB1.out)).below ((Below.refl _ _).alloc (Nat.le_refl _) _)) (one_cb bs) (by unfold maxLen; omega) (by omega) ?_; intro xo xc w2 hx hch _ hx2; simp only [Nat.zero_add, List.nil_append] at hx; have HO := Lib.hid hx; have HC := Lib.hid (chg_new HB1.out hch); have HX2 := Lib.hid (new_blk HB1.out hx2); clear hx hch hx2)
      | (at_builtin; refine wpList_append' rfl (.tmp 28) (.tmp 40) el_u8 rfl rfl rfl (HO.out.keep ((Chg.refl (fun _ => False) _).alloc _) (by simp)) (m := 4) (news := (le4 (crc bs)).map cb) rfl (le4_row _ _ _) (one_cb _) (by unfold maxLen; omega) (by omega) ?_; intro yo yc w3 hx hch _ hx2; have HO2 := Lib.hid hx; have HC2 := Lib.hid (burst_chg HC.out hch HX2.out); have HX3 := Lib.hid (burst_blk HC.out.size HX2.out hx2); clear hx hch hx2))
    obtain ⟨K, hK, hKlt⟩ := k_form at_ bs.length hl'
    have h1 := HO2.out
    have h2 := HX3.out
    rw [← List.map_append] at h1
    obtain ⟨yb, yoff, rfl, _⟩ := h1.row (by simp [le4])
    have HY := Lib.hid (h2 _ rfl)
    have HP := Lib.hid h1
    have HC3 := Lib.hid HC2.out
    clear HO2 HX3 h1 h2 HC2 HC HO HX2
    rw [hK]
    clear hK
    go_loopg [10, 50] 32 (fun g t i wr => ∃ (m : Nat) (l : List UInt8), g + m = 32 ∧ i = .int .i64 m ∧ t = .bool (turned word (8 * (bs.length + 4)) K m) ∧ l.length = bs.length + 4 ∧ Own wr 1 (some ⟨yb, yoff, none⟩) (bs.length + 4) yc (l.map cb) ∧ Below w.heap.size w wr ∧
      crcs (~~~ 0#32) l = crcs (~~~ 0#32) (summed bs) ^^^ rep stp (8 * (bs.length + 4) - K) (part word (8 * (bs.length + 4)) K m))
    case atStart => exact ⟨0, _, rfl, rfl, rfl, by simp [le4], HP.out, HC3.out, by simp only [part, rep_stp_zero, BitVec.xor_zero]; rfl⟩
    case round =>
      obtain ⟨m, l, hm, rfl, rfl, hll, hown, hbel, hcr⟩ := hrel
      have HR := Lib.hid (And.intro hll (And.intro hown (And.intro hbel hcr)))
      clear hll hown hbel hcr
      by_cases hlt : m < 32
      · by_cases hw : word.getLsbD m = true
        · have hb := word_bit word m
          rw [hw] at hb
          by_cases hT : K + m < 8 * (bs.length + 4)
          · obtain ⟨v0, ev, cg, cf⟩ := burst_cell HR.out.1 HR.out.2.1 hT
            have EV := Lib.hid ev
            clear ev
            go_wp2
            go_region
            go_wp2
            go_roundg (gk - 1)
            case measure => omega
            case rel =>
              have hx := crcs_part (l := l) (w := word) (k := K) (i := m) (c0 := crcs (~~~ 0#32) (summed bs)) (x := ~~~ 0#32) (by rw [HR.out.1]; omega) hlt (by rw [HR.out.1]; exact HR.out.2.2.2)
              rw [HR.out.1, if_pos ⟨hw, hT⟩] at hx
              refine ⟨m + 1, flip l (K + m), by omega, by go_num, ?_, by rw [flip_length]; exact HR.out.1, ?_, ?_, hx⟩
              · simp only [turned, hw, hT, decide_true, Bool.and_true, Bool.or_true]
              · have hi : (K + m) / 8 < l.length := by rw [HR.out.1]; omega
                have e0 := EV.out
                rw [List.getElem?_eq_getElem hi] at e0
                cases e0
                have h1 := HR.out.2.1.set ((K + m) / 8) (cb (l[(K + m) / 8] ^^^ UInt8.ofNat (2 ^ ((K + m) % 8)))) (by omega)
                rw [← flip_cells hi] at h1
                have h8 := shl8 (K + m)
                rw [Int.one_mul] at h8
                rw [h8, xor8]
                exact h1.drew
              · exact (HR.out.2.2.1.setCell HY.out _).drew
          · go_wp2
            go_roundg (gk - 1)
            case measure => omega
            case rel =>
              have hx := crcs_part (l := l) (w := word) (k := K) (i := m) (c0 := crcs (~~~ 0#32) (summed bs)) (x := ~~~ 0#32) (by rw [HR.out.1]; omega) hlt (by rw [HR.out.1]; exact HR.out.2.2.2)
              rw [HR.out.1, if_neg (fun q => hT q.2)] at hx
              exact ⟨m + 1, l, by omega, by go_num, by simp only [turned, hT, decide_false, Bool.and_false, Bool.or_false], HR.out.1, HR.out.2.1, HR.out.2.2.1, hx⟩
        · have hw' : word.getLsbD m = false := by simpa using hw
          have hb := word_bit word m
          rw [hw'] at hb
          have HX := Lib.hid hw'
          clear hw hw'
          go_wp2
          go_roundg (gk - 1)
          case measure => omega
          case rel =>
            have hx := crcs_part (l := l) (w := word) (k := K) (i := m) (c0 := crcs (~~~ 0#32) (summed bs)) (x := ~~~ 0#32) (by rw [HR.out.1]; omega) hlt (by rw [HR.out.1]; exact HR.out.2.2.2)
            rw [HR.out.1, if_neg (fun q => by rw [HX.out] at q; cases q.1)] at hx
            exact ⟨m + 1, l, by omega, by go_num, by simp only [turned, HX.out, Bool.false_and, Bool.or_false], HR.out.1, HR.out.2.1, HR.out.2.2.1, hx⟩
      · obtain rfl : m = 32 := by omega
        obtain ⟨x0, x1, x2, x3, hl4, g0, g1, g2, g3⟩ := burst_end HR.out.1 HR.out.2.1
        have HL4 := Lib.hid hl4
        have hyc : bs.length ≤ yc := by have := HR.out.2.1.le; omega
        clear hl4
        go_wp2
        go_quiet (fail)
        rw [told_form]
        go_wp2_with (go_at_call 8; (with_reducible refine (sum_any' _ _ _ (l.take bs.length) _ (by rw [List.length_take, HR.out.1]; omega) (by omega) ((HR.out.2.1.bts.take _).drewN _)).mono ?_); rintro e w' ⟨rfl, rfl⟩)
        go_ret
        refine ⟨?_, below_drewN HR.out.2.2.1 _⟩
        have hb := burst (b := bs) (l := l) (w := word) (k := K) (by rw [HR.out.1]; omega) (by rw [HR.out.1]; exact HR.out.2.2.2) HL4.out
        rw [HR.out.1] at hb
        rw [← hb, int32_inj, beq_self_eq_true]
        rfl
theorem crcBursts_in (W : World) (base : Nat) (v0 v1 v2 : Value) (k0 : Value.okWide Try.prog W .any base 22 v0) (k1 : Value.okWide Try.prog W .any base 3 v1) (k2 : Value.okWide Try.prog W .any base 24 v2)
    (r0 : Rd Try.prog W 22 v0.cells.toList) (r1 : Rd Try.prog W 3 v1.cells.toList) (r2 : Rd Try.prog W 24 v2.cells.toList) :
    Calls Try.prog 5 #[v0, v1, v2] W fun e w' => e = .returned (.bool true) ∧ Below W.heap.size W w' := by
  obtain ⟨ao, xs, c, rfl, ha⟩ := in_bytes Try.underlying22 Try.underlying5 (by kernel_rfl) k0 r0
  obtain ⟨n, rfl, h1, h2⟩ := in_i64 Try.underlying3 k1 r1
  obtain ⟨u, rfl⟩ := in_u32 Try.underlying24 k2 r2
  exact crcBursts_walk _ _ _ _ _ _ ha ⟨h1, h2⟩
end Go.Proofs.Ytagahmneipppoaa
