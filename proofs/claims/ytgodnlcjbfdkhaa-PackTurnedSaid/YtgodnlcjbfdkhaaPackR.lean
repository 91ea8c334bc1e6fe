/-
  LAYER 2: a reader in memory; what it takes, and what it throws.
-/
import Derived.Test.YtgodnlcjbfdkhaaPackW
import Derived.Defers
import Derived.Recover
namespace Go.Proofs.Ytgodnlcjbfdkhaa
open Go Go.RowKit

/-- A reader at block p; bs is left in it. What it reads lies in the block D. -/
def RdrAt (w : World) (p : Nat) (D : Option Nat) (bs : List UInt8) : Prop :=
  ∃ ao cap, w.heap[p]? = some (.cells #[.slice ao bs.length cap] 75 (0, 0)) ∧ Bts w ao bs ∧ bs.length ≤ cap ∧ cap ≤ maxLen ∧ (bs ≠ [] → ∀ a, ao = some a → D = some a.block ∧ a.block ≠ p)
theorem RdrAt.keep {w w' : World} {p : Nat} {D : Option Nat} {bs : List UInt8} (h : RdrAt w p D bs) {S : Nat → Prop} (hc : Chg S w w') (hp : ¬ S p) (hD : ∀ k, D = some k → ¬ S k) : RdrAt w' p D bs := by
  obtain ⟨ao, cap, h1, h2, h3, h4, h5⟩ := h
  refine ⟨ao, cap, hc.heap h1 hp, ?_, h3, h4, h5⟩
  by_cases hn : bs = []
  · rw [hn]; exact Bts.nil _ _
  · exact hc.row h2 (fun a ha => hD _ (h5 hn a ha).1)
theorem RdrAt.keep' {w w' : World} {p : Nat} {D : Option Nat} {bs : List UInt8} (h : RdrAt w p D bs) (hb : Below w.heap.size w w') : RdrAt w' p D bs := by
  obtain ⟨ao, cap, h1, h2, h3, h4, h5⟩ := h
  exact ⟨ao, cap, (Chg.of_below hb (fun _ => False)).heap h1 (fun h => h), h2.below hb, h3, h4, h5⟩
/-- What is thrown: an error's number. -/
def thrown (code : Int) : List PanicEntry := [{ v := .iface 74 (.agg #[.int .i64 code]), recovered := false }]
theorem take_short (p : Nat) (D : Option Nat) (bs : List UInt8) (n : Nat) (w : World) (h : RdrAt w p D bs) (hn : bs.length < n) (h64 : n < 18446744073709551616) (hb : bs.length ≤ 140737488351232) :
    Calls Try.prog 41 #[.pointer (some ⟨p, 0, none⟩), .int .u64 (n : Int)] w fun e w' => e = .panicked (thrown 4) ∧ w = w' := by
  obtain ⟨ao, cap, h1, h2, h3, h4, h5⟩ := h
  have z0 := heap_cell h1 0
  simp at z0
  clear h1 h2 h5
  go_enter Try.func41, Try.ntmps41
  go_wp2
  exact ⟨rfl, rfl, rfl⟩
theorem take_any (p : Nat) (D : Option Nat) (bs : List UInt8) (n : Nat) (w : World) (h : RdrAt w p D bs) (hn : n ≤ bs.length) (hb : bs.length ≤ 140737488351232) :
    Calls Try.prog 41 #[.pointer (some ⟨p, 0, none⟩), .int .u64 (n : Int)] w fun e w' => ∃ ao cap, e = .returned (.slice ao n cap) ∧ Bts w' ao (bs.take n) ∧ n ≤ cap ∧ cap ≤ maxLen ∧ RdrAt w' p D (bs.drop n) ∧ Chg (· = p) w w' := by
  obtain ⟨ao, cap, h1, h2, h3, h4, h5⟩ := h
  have z0 := heap_cell h1 0
  have z1 := heap_frozen h1 0
  simp at z0
  have H := Lib.hid (And.intro h1 (And.intro h2 (And.intro h3 (And.intro h4 h5))))
  clear h1 h2 h5
  unfold maxLen at h4
  have hbt : ∀ u : Value, Bts (w.setCell ⟨p, 0, none⟩ u) ao bs := by
    intro u
    by_cases hz : bs = []
    · rw [hz]; exact Bts.nil _ _
    · exact (Chg.one _ _ _ _).row H.out.2.1 (fun a ha => (H.out.2.2.2.2 hz a ha).2)
  have HB := Lib.hid hbt
  clear hbt
  by_cases hc : cap = n
  · subst hc
    have hbl : bs.length = cap := by omega
    have HBL := Lib.hid hbl
    go_enter Try.func41, Try.ntmps41
    go_wp2
    go_ret
    refine ⟨ao, cap, rfl, (HB.out _).take cap, Nat.le_refl _, H.out.2.2.2.1, ⟨ao, 0, ?_, ?_, by rw [List.length_drop]; omega, by simp, fun hx => ?_⟩, Chg.one _ _ _ _⟩
    · rw [heap_set H.out.1]; simp; omega
    · rw [List.drop_of_length_le (by omega)]; exact Bts.nil _ _
    · exact absurd (List.drop_of_length_le (by omega)) hx
  · go_enter Try.func41, Try.ntmps41
    go_wp2
    go_ret
    refine ⟨ao, cap, rfl, (HB.out _).take n, by omega, H.out.2.2.2.1, ⟨ao.map (fun x => x.add n), cap - n, ?_, ?_, by rw [List.length_drop]; omega, by unfold maxLen; omega, ?_⟩, Chg.one _ _ _ _⟩
    · rw [heap_set H.out.1]; simp
    · exact (HB.out _).drop' n
    · intro hx a ha
      have hz : bs ≠ [] := by rintro rfl; simp at hx
      cases ao with
      | none => cases ha
      | some a0 => cases ha; rw [block_add]; exact H.out.2.2.2.2 hz a0 rfl
/-- Bytes as a number, the first the greatest. -/
def ube (bs : List UInt8) : Nat := bs.foldl (fun n c => n * 256 + c.toNat) 0
theorem ube_snoc (bs : List UInt8) (c : UInt8) : ube (bs ++ [c]) = ube bs * 256 + c.toNat := by simp [ube]
theorem ube_lt (bs : List UInt8) : ube bs < 256 ^ bs.length := by
  suffices ∀ (bs : List UInt8) (n : Nat), bs.foldl (fun n c => n * 256 + c.toNat) n < (n + 1) * 256 ^ bs.length by
    have := this bs 0
    simpa [ube] using this
  intro bs
  induction bs with
  | nil => intro n; simp
  | cons c cs ih =>
    intro n
    have h := ih (n * 256 + c.toNat)
    have hc := c.toNat_lt
    simp only [List.foldl_cons, List.length_cons]
    refine Nat.lt_of_lt_of_le h ?_
    rw [Nat.pow_succ, Nat.mul_comm (256 ^ cs.length) 256, ← Nat.mul_assoc]
    exact Nat.mul_le_mul_right _ (by omega)
theorem acc64 (n : Nat) (c : UInt8) (h : n < 72057594037927936) : bits .or .u64 ((n : Int) * 256) (IntKind.u64.wrap (c.toNat : Int)) = ((n * 256 + c.toNat : Nat) : Int) := by
  have hc := c.toNat_lt
  have e0 : (n : Int) * 256 = ((n * 256 : Nat) : Int) := by omega
  have ew : IntKind.u64.wrap (c.toNat : Int) = (c.toNat : Int) := by rw [IntKind.wrap_u64]; omega
  rw [e0, ew]
  have e1 : ((n * 256 : Nat) : Int) = (((BitVec.ofNat 64 (n * 256)).toNat : Nat) : Int) := by rw [BitVec.toNat_ofNat, Nat.mod_eq_of_lt (by omega)]
  have e2 : (c.toNat : Int) = (((BitVec.ofNat 64 c.toNat).toNat : Nat) : Int) := by rw [BitVec.toNat_ofNat, Nat.mod_eq_of_lt (by omega)]
  rw [e1, e2]
  show IntKind.u64.wrap (((BitVec.ofInt 64 ((BitVec.ofNat 64 (n * 256)).toNat : Int)) ||| (BitVec.ofInt 64 ((BitVec.ofNat 64 c.toNat).toNat : Int))).toNat : Int) = _
  rw [ofInt_toNat, ofInt_toNat, IntKind.wrap_u64, BitVec.toNat_or, BitVec.toNat_ofNat, BitVec.toNat_ofNat, Nat.mod_eq_of_lt (by omega), Nat.mod_eq_of_lt (by omega)]
  have e3 : n * 256 ||| c.toNat = n * 256 + c.toNat := by
    apply Nat.eq_of_testBit_eq
    intro i
    rw [show n * 256 = 2 ^ 8 * n by omega, Nat.testBit_or, Nat.testBit_two_pow_mul_add n (show c.toNat < 2 ^ 8 by omega), Nat.testBit_two_pow_mul]
    by_cases hi : i < 8
    · have : ¬ 8 ≤ i := by omega
      simp [hi, this]
    · have h2 : 8 ≤ i := by omega
      have h3 : c.toNat.testBit i = false := Nat.testBit_lt_two_pow (Nat.lt_of_lt_of_le (show c.toNat < 2 ^ 8 by omega) (Nat.pow_le_pow_right (by decide) h2))
      simp [hi, h2, h3]
  rw [e3]; omega
theorem rnum_short (p : Nat) (D : Option Nat) (bs : List UInt8) (n : Nat) (N : Int) (hN : N = (n : Int)) (w : World) (h : RdrAt w p D bs) (hn : bs.length < n) (h64 : n < 18446744073709551616) (hb : bs.length ≤ 140737488351232) :
    Calls Try.prog 40 #[.pointer (some ⟨p, 0, none⟩), .int .u64 N] w fun e w' => e = .panicked (thrown 4) ∧ w = w' := by
  subst hN
  have H := Lib.hid h
  clear h
  go_enter Try.func40, Try.ntmps40
  go_wp2_with (go_at_call 41; (with_reducible refine (take_short p D bs n _ H.out hn h64 hb).mono ?_); rintro e w1 ⟨rfl, rfl⟩)
  exact ⟨rfl, rfl, rfl⟩
theorem rnum_any (p : Nat) (D : Option Nat) (bs : List UInt8) (n : Nat) (N : Int) (hN : N = (n : Int)) (w : World) (h : RdrAt w p D bs) (hn : n ≤ bs.length) (h8 : n ≤ 8) (hb : bs.length ≤ 140737488351232) :
    Calls Try.prog 40 #[.pointer (some ⟨p, 0, none⟩), .int .u64 N] w fun e w' => e = .returned (.int .u64 (ube (bs.take n) : Int)) ∧ RdrAt w' p D (bs.drop n) ∧ Chg (· = p) w w' := by
  subst hN
  have H := Lib.hid h
  clear h
  have hlen : (bs.take n).length = n := by rw [List.length_take]; omega
  go_enter Try.func40, Try.ntmps40
  go_wp2_with (go_at_call 41; (with_reducible refine (take_any p D bs n _ H.out hn hb).mono ?_); rintro e w1 ⟨ao, cap, rfl, hbt, hc, hm, hr, hg⟩; have HB := Lib.hid hbt; have HR := Lib.hid (And.intro hr hg); clear hbt hm hr hg)
  generalize hxs : bs.take n = xs at *
  have HXS := Lib.hid hxs
  clear hxs
  go_loopg [5, 12] n (fun g x i wr => wr = w1 ∧ ∃ k : Nat, g + k = n ∧ x = .int .u64 (ube (xs.take k) : Int) ∧ i = .int .i64 k)
  case atStart => exact ⟨rfl, 0, by omega, rfl, rfl⟩
  case round =>
    obtain ⟨rfl, k, hk, rfl, rfl⟩ := hrel
    by_cases hlt : k < n
    · obtain ⟨b, off, rfl, hcell⟩ := HB.out.at (by omega)
      have hkx : k < xs.length := by omega
      have h1 := hcell k hkx
      have HT := Lib.hid (show ube (xs.take (k + 1)) = ube (xs.take k) * 256 + xs[k].toNat by rw [List.take_succ_eq_append_getElem hkx, ube_snoc])
      have hu := ube_lt (xs.take k)
      rw [List.length_take, Nat.min_eq_left (by omega)] at hu
      have hu2 : ube (xs.take k) < 72057594037927936 := Nat.lt_of_lt_of_le hu (Nat.pow_le_pow_right (n := 256) (i := k) (j := 7) (by decide) (by omega))
      clear hu
      generalize ube (xs.take k) = X at *
      generalize xs[k] = y at *
      clear hcell HB
      go_wp2
      go_roundg (gk - 1)
      case measure => omega
      case rel =>
        refine ⟨rfl, k + 1, by omega, ?_, by go_num⟩
        rw [acc64 X y hu2, HT.out]
    · go_wp2
      go_ret
      refine ⟨?_, HR.out⟩
      rw [List.take_of_length_le (by omega), HXS.out]
      rfl

theorem ru8_short (p : Nat) (D : Option Nat) (bs : List UInt8) (w : World) (h : RdrAt w p D bs) (hn : bs.length < 1) :
    Calls Try.prog 19 #[.pointer (some ⟨p, 0, none⟩)] w fun e w' => e = .panicked (thrown 4) ∧ w = w' := by
  have H := Lib.hid h
  clear h
  go_enter Try.func19, Try.ntmps19
  go_wp2_with (go_at_call 40; (with_reducible refine (rnum_short p D bs 1 1 rfl _ H.out hn (by omega) (by omega)).mono ?_); rintro e w1 ⟨rfl, rfl⟩)
  exact ⟨rfl, rfl, rfl⟩
theorem ru8_any (p : Nat) (D : Option Nat) (bs : List UInt8) (w : World) (h : RdrAt w p D bs) (hn : 1 ≤ bs.length) (hb : bs.length ≤ 140737488351232) :
    Calls Try.prog 19 #[.pointer (some ⟨p, 0, none⟩)] w fun e w' => e = .returned (.int .u8 (ube (bs.take 1) : Int)) ∧ RdrAt w' p D (bs.drop 1) ∧ Chg (· = p) w w' := by
  have H := Lib.hid h
  clear h
  have hu := ube_lt (bs.take 1)
  rw [List.length_take, Nat.min_eq_left hn] at hu
  go_enter Try.func19, Try.ntmps19
  go_wp2_with (go_at_call 40; (with_reducible refine (rnum_any p D bs 1 1 rfl _ H.out hn (by omega) hb).mono ?_); rintro e w1 ⟨rfl, hr, hg⟩; have HR := Lib.hid (And.intro hr hg); clear hr hg)
  go_ret
  exact ⟨by first | rfl | (congr 2; rw [IntKind.wrap_u8]; omega), HR.out⟩
theorem ru16_short (p : Nat) (D : Option Nat) (bs : List UInt8) (w : World) (h : RdrAt w p D bs) (hn : bs.length < 2) :
    Calls Try.prog 20 #[.pointer (some ⟨p, 0, none⟩)] w fun e w' => e = .panicked (thrown 4) ∧ w = w' := by
  have H := Lib.hid h
  clear h
  go_enter Try.func20, Try.ntmps20
  go_wp2_with (go_at_call 40; (with_reducible refine (rnum_short p D bs 2 2 rfl _ H.out hn (by omega) (by omega)).mono ?_); rintro e w1 ⟨rfl, rfl⟩)
  exact ⟨rfl, rfl, rfl⟩
theorem ru16_any (p : Nat) (D : Option Nat) (bs : List UInt8) (w : World) (h : RdrAt w p D bs) (hn : 2 ≤ bs.length) (hb : bs.length ≤ 140737488351232) :
    Calls Try.prog 20 #[.pointer (some ⟨p, 0, none⟩)] w fun e w' => e = .returned (.int .u16 (ube (bs.take 2) : Int)) ∧ RdrAt w' p D (bs.drop 2) ∧ Chg (· = p) w w' := by
  have H := Lib.hid h
  clear h
  have hu := ube_lt (bs.take 2)
  rw [List.length_take, Nat.min_eq_left hn] at hu
  go_enter Try.func20, Try.ntmps20
  go_wp2_with (go_at_call 40; (with_reducible refine (rnum_any p D bs 2 2 rfl _ H.out hn (by omega) hb).mono ?_); rintro e w1 ⟨rfl, hr, hg⟩; have HR := Lib.hid (And.intro hr hg); clear hr hg)
  go_ret
  exact ⟨by first | rfl | (congr 2; rw [IntKind.wrap_u16]; omega), HR.out⟩
theorem ru32_short (p : Nat) (D : Option Nat) (bs : List UInt8) (w : World) (h : RdrAt w p D bs) (hn : bs.length < 4) :
    Calls Try.prog 21 #[.pointer (some ⟨p, 0, none⟩)] w fun e w' => e = .panicked (thrown 4) ∧ w = w' := by
  have H := Lib.hid h
  clear h
  go_enter Try.func21, Try.ntmps21
  go_wp2_with (go_at_call 40; (with_reducible refine (rnum_short p D bs 4 4 rfl _ H.out hn (by omega) (by omega)).mono ?_); rintro e w1 ⟨rfl, rfl⟩)
  exact ⟨rfl, rfl, rfl⟩
theorem ru32_any (p : Nat) (D : Option Nat) (bs : List UInt8) (w : World) (h : RdrAt w p D bs) (hn : 4 ≤ bs.length) (hb : bs.length ≤ 140737488351232) :
    Calls Try.prog 21 #[.pointer (some ⟨p, 0, none⟩)] w fun e w' => e = .returned (.int .u32 (ube (bs.take 4) : Int)) ∧ RdrAt w' p D (bs.drop 4) ∧ Chg (· = p) w w' := by
  have H := Lib.hid h
  clear h
  have hu := ube_lt (bs.take 4)
  rw [List.length_take, Nat.min_eq_left hn] at hu
  go_enter Try.func21, Try.ntmps21
  go_wp2_with (go_at_call 40; (with_reducible refine (rnum_any p D bs 4 4 rfl _ H.out hn (by omega) hb).mono ?_); rintro e w1 ⟨rfl, hr, hg⟩; have HR := Lib.hid (And.intro hr hg); clear hr hg)
  go_ret
  exact ⟨by first | rfl | (congr 2; rw [IntKind.wrap_u32]; omega), HR.out⟩
theorem ru64_short (p : Nat) (D : Option Nat) (bs : List UInt8) (w : World) (h : RdrAt w p D bs) (hn : bs.length < 8) :
    Calls Try.prog 22 #[.pointer (some ⟨p, 0, none⟩)] w fun e w' => e = .panicked (thrown 4) ∧ w = w' := by
  have H := Lib.hid h
  clear h
  go_enter Try.func22, Try.ntmps22
  go_wp2_with (go_at_call 40; (with_reducible refine (rnum_short p D bs 8 8 rfl _ H.out hn (by omega) (by omega)).mono ?_); rintro e w1 ⟨rfl, rfl⟩)
  exact ⟨rfl, rfl, rfl⟩
theorem ru64_any (p : Nat) (D : Option Nat) (bs : List UInt8) (w : World) (h : RdrAt w p D bs) (hn : 8 ≤ bs.length) (hb : bs.length ≤ 140737488351232) :
    Calls Try.prog 22 #[.pointer (some ⟨p, 0, none⟩)] w fun e w' => e = .returned (.int .u64 (ube (bs.take 8) : Int)) ∧ RdrAt w' p D (bs.drop 8) ∧ Chg (· = p) w w' := by
  have H := Lib.hid h
  clear h
  have hu := ube_lt (bs.take 8)
  rw [List.length_take, Nat.min_eq_left hn] at hu
  go_enter Try.func22, Try.ntmps22
  go_wp2_with (go_at_call 40; (with_reducible refine (rnum_any p D bs 8 8 rfl _ H.out hn (by omega) hb).mono ?_); rintro e w1 ⟨rfl, hr, hg⟩; have HR := Lib.hid (And.intro hr hg); clear hr hg)
  go_ret
  exact ⟨by first | rfl | (congr 2; rw [IntKind.wrap_u64]; omega), HR.out⟩
theorem rbytes_any (p : Nat) (D : Option Nat) (bs : List UInt8) (w : World) (h : RdrAt w p D bs) (h4 : 4 ≤ bs.length) (hn : 4 + ube (bs.take 4) ≤ bs.length) (hb : bs.length ≤ 140737488351232) :
    Calls Try.prog 23 #[.pointer (some ⟨p, 0, none⟩)] w fun e w' => ∃ bo cap, e = .returned (.slice bo (ube (bs.take 4)) cap) ∧ Own w' 1 bo (ube (bs.take 4)) cap (((bs.drop 4).take (ube (bs.take 4))).map cb) ∧ (∀ a, bo = some a → w.heap.size ≤ a.block) ∧ RdrAt w' p D (bs.drop (4 + ube (bs.take 4))) ∧ Chg (· = p) w w' := by
  have H := Lib.hid h
  clear h
  have hn2 : ube (bs.take 4) ≤ (bs.drop 4).length := by rw [List.length_drop]; omega
  have hb2 : (bs.drop 4).length ≤ 140737488351232 := by rw [List.length_drop]; omega
  have HE := Lib.hid (show (bs.drop 4).drop (ube (bs.take 4)) = bs.drop (4 + ube (bs.take 4)) by rw [List.drop_drop])
  have HL := Lib.hid (show ((bs.drop 4).take (ube (bs.take 4))).length = ube (bs.take 4) by rw [List.length_take, Nat.min_eq_left hn2])
  generalize hq : ube (bs.take 4) = n at *
  have HQ := Lib.hid hq
  clear hq
  go_enter Try.func23, Try.ntmps23
  go_wp2_with (first
    | (go_at_call 40; (with_reducible refine (rnum_any p D bs 4 4 rfl _ H.out h4 (by omega) hb).mono ?_); rintro e w1 ⟨rfl, hr, hg⟩; have HR := Lib.hid (And.intro hr hg); clear hr hg; rw [HQ.out])
    | (go_at_call 41; (with_reducible refine (take_any p D (bs.drop 4) n _ HR.out.1 hn2 hb2).mono ?_); rintro e w2 ⟨ao, c2, rfl, hbt, hc2, hm2, hr2, hg2⟩; have HT := Lib.hid hbt; have HS := Lib.hid (And.intro hr2 hg2); clear hbt hm2 hr2 hg2)
    | (go_at_call 33; (with_reducible refine (clone_any _ n _ _ _ HL.out (by omega) HT.out).mono ?_); rintro e w3 ⟨bo, xc, rfl, hb3, ho3, hx3⟩; have HO := Lib.hid (And.intro hb3 (And.intro ho3 hx3)); clear hb3 ho3 hx3))
  go_ret
  obtain ⟨hb3, ho3, hx3⟩ := HO.out
  obtain ⟨hr2, hg2⟩ := HS.out
  obtain ⟨hr1, hg1⟩ := HR.out
  have hg12 : Chg (· = p) w w2 := hg1.trans hg2 (fun _ _ h => h)
  refine ⟨bo, xc, rfl, ho3, fun a ha => Nat.le_trans hg12.size (hx3 a ha), ?_, hg12.trans (Chg.of_below hb3 (· = p)) (fun _ _ h => h)⟩
  rw [← HE.out]
  exact hr2.keep' hb3
theorem rbytes_short (p : Nat) (D : Option Nat) (bs : List UInt8) (w : World) (h : RdrAt w p D bs) (hn : bs.length < 4 ∨ bs.length < 4 + ube (bs.take 4)) (hb : bs.length ≤ 140737488351232) :
    Calls Try.prog 23 #[.pointer (some ⟨p, 0, none⟩)] w fun e w' => e = .panicked (thrown 4) ∧ Chg (· = p) w w' := by
  have H := Lib.hid h
  clear h
  by_cases h4 : bs.length < 4
  · go_enter Try.func23, Try.ntmps23
    go_wp2_with (go_at_call 40; (with_reducible refine (rnum_short p D bs 4 4 rfl _ H.out h4 (by omega) hb).mono ?_); rintro e w1 ⟨rfl, rfl⟩)
    exact ⟨rfl, rfl, Chg.refl _ _⟩
  · have h4' : 4 ≤ bs.length := by omega
    have hn' : bs.length < 4 + ube (bs.take 4) := by omega
    have hn2 : (bs.drop 4).length < ube (bs.take 4) := by rw [List.length_drop]; omega
    have hb2 : (bs.drop 4).length ≤ 140737488351232 := by rw [List.length_drop]; omega
    have hu := ube_lt (bs.take 4)
    rw [List.length_take, Nat.min_eq_left h4'] at hu
    clear hn hn'
    generalize hq : ube (bs.take 4) = n at *
    have HQ := Lib.hid hq
    clear hq
    have h64 : n < 18446744073709551616 := by omega
    go_enter Try.func23, Try.ntmps23
    go_wp2_with (first
      | (go_at_call 40; (with_reducible refine (rnum_any p D bs 4 4 rfl _ H.out h4' (by omega) hb).mono ?_); rintro e w1 ⟨rfl, hr, hg⟩; have HR := Lib.hid (And.intro hr hg); clear hr hg; rw [HQ.out])
      | (go_at_call 41; (with_reducible refine (take_short p D (bs.drop 4) n _ HR.out.1 hn2 h64 hb2).mono ?_); rintro e w2 ⟨rfl, rfl⟩))
    exact ⟨rfl, rfl, HR.out.2⟩
/-! What catches: the deferred function of a read. -/
theorem not_nil (W : World) (u : TypeId) (v : Value) : (binOp .eql 20 (.iface u v) .nilIface).run Try.prog W = .ok (.bool false) W := by kernel_rfl
theorem as_thrown (W : World) (v : Value) : (Instr.typeAssert (.iface 74 v) 20 74 true).run Try.prog W = .ok (.tuple #[v, .bool true]) W := by kernel_rfl
theorem as_int (W : World) (v : Value) : (Instr.typeAssert (.iface 3 v) 20 74 true).run Try.prog W = .ok (.tuple #[.agg #[.int .i64 0], .bool false]) W := by kernel_rfl
theorem catch_thrown (p : Nat) (code : Int) (old : Value) (older : List PanicEntry) (w : World) (hc : w.cell? ⟨p, 0, none⟩ = some old) (hz : w.frozen? ⟨p, 0, none⟩ = false) (hp : p < w.heap.size) :
    CallsD Try.prog 39 #[.pointer (some ⟨p, 0, none⟩)] (.panicking ({ v := .iface 74 (.agg #[.int .i64 code]), recovered := false } :: older)) w fun e u' w' =>
      e = .returned (.tuple #[]) ∧ u' = .panicking ({ v := .iface 74 (.agg #[.int .i64 code]), recovered := true } :: older) ∧ Chg (· = p) w w' ∧ w'.cell? ⟨p, 0, none⟩ = some (.int .i64 code) := by
  have ht := as_thrown
  have hn := not_nil
  refine callsD_of_wpS Try.func39 rfl fun c₀ cs hu => ?_
  apply wpS_seq
  apply wpS_region
  simp [wpOpsS, go_sem, recoverD, hu, Try.ntmps39, Exit.thenS]
  refine wpS_of_wp ?_
  rw [show #[Value.pointer (some ⟨p, 0, none⟩)] ++ (Array.replicate 11 undef).setIfInBounds 3 (Value.iface 74 (.agg #[.int .i64 code])) = #[Value.pointer (some ⟨p, 0, none⟩), undef, undef, undef, Value.iface 74 (.agg #[.int .i64 code]), undef, undef, undef, undef, undef, undef, undef] from rfl]
  go_wp2
  simp [bodyPostS, results, Try.results39, go_sem]
  exact ⟨(Chg.one _ _ _ _).alloc _, ((Chg.refl (fun _ => False) _).alloc _).cell (by simp [go_sem, hc]) (fun h => h)⟩
theorem catch_int (p : Nat) (n : Value) (older : List PanicEntry) (w : World) :
    CallsD Try.prog 39 #[.pointer (some ⟨p, 0, none⟩)] (.panicking ({ v := .iface 3 n, recovered := false } :: older)) w fun e u' w' =>
      e = .panicked [{ v := .iface 3 n, recovered := false }] ∧ u' = .panicking ({ v := .iface 3 n, recovered := true } :: older) ∧ w' = w := by
  have ht := as_int
  have hn := not_nil
  refine callsD_of_wpS Try.func39 rfl fun c₀ cs hu => ?_
  apply wpS_seq
  apply wpS_region
  simp [wpOpsS, go_sem, recoverD, hu, Try.ntmps39, Exit.thenS]
  refine wpS_of_wp ?_
  rw [show #[Value.pointer (some ⟨p, 0, none⟩)] ++ (Array.replicate 11 undef).setIfInBounds 3 (Value.iface 3 n) = #[Value.pointer (some ⟨p, 0, none⟩), undef, undef, undef, Value.iface 3 n, undef, undef, undef, undef, undef, undef, undef] from rfl]
  go_wp2
  simp [bodyPostS]
theorem catch_idle (p : Nat) (w : World) :
    CallsD Try.prog 39 #[.pointer (some ⟨p, 0, none⟩)] .returning w fun e u' w' =>
      e = .returned (.tuple #[]) ∧ u' = .returning ∧ w' = w := by
  refine callsD_of_wpS Try.func39 rfl fun c₀ cs hu => ?_
  apply wpS_seq
  apply wpS_region
  simp [wpOpsS, go_sem, recoverD, hu, Try.ntmps39, Exit.thenS]
  refine wpS_of_wp ?_
  go_wp2
  cases c₀
  simp_all [bodyPostS, results, Try.results39]
theorem bts_lt {w : World} {ao : Option Addr} {bs : List UInt8} (h : Bts w ao bs) (hz : bs ≠ []) : ∀ a, ao = some a → a.block < w.heap.size := by
  have hl : 0 < bs.length := by cases bs with
    | nil => exact absurd rfl hz
    | cons => simp
  obtain ⟨b, off, rfl, hc⟩ := h.at hl
  have h0 := hc 0 hl
  rintro a ⟨⟩
  cases hb : w.heap[b]? with
  | none => simp [World.cell?, hb] at h0
  | some o => exact heap_lt hb
theorem heap_top (w : World) (o : Obj) : (w.alloc o).heap[w.heap.size]? = some o := by show (w.heap.push o)[w.heap.size]? = _; simp
theorem size_alloc (w : World) (o : Obj) : (w.alloc o).heap.size = w.heap.size + 1 := by show (w.heap.push o).size = _; simp
/-- Where a read stands ahead of its closure: its result's cell, and the reader. -/
abbrev readWorld (w : World) (v : Value) : World := (w.alloc (.cells #[.int .i64 0] 24)).alloc (.cells #[v] 75)
theorem readWorld_below (w : World) (v : Value) : Below w.heap.size w (readWorld w v) := ((Below.refl _ w).alloc (Nat.le_refl _) _).alloc (by rw [size_alloc]; omega) _
theorem readWorld_cell (w : World) (v : Value) : (readWorld w v).heap[w.heap.size]? = some (.cells #[.int .i64 0] 24 (0, 0)) := heap_new (heap_top _ _)
theorem readWorld_size (w : World) (v : Value) : (readWorld w v).heap.size = w.heap.size + 2 := by rw [size_alloc, size_alloc]
theorem readWorld_rdr (w : World) {ao : Option Addr} {n c : Nat} {bs : List UInt8} (hb : Bts w ao bs) (hl : bs.length = n) (hnc : n ≤ c) (hm : c ≤ maxLen) : RdrAt (readWorld w (.slice ao n c)) (w.heap.size + 1) (ao.map (·.block)) bs := by
  refine ⟨ao, c, ?_, hb.below (readWorld_below w _), by omega, hm, ?_⟩
  · have := heap_top (w.alloc (.cells #[.int .i64 0] 24)) (.cells #[.slice ao n c] 75)
    rw [size_alloc] at this
    rw [hl]
    exact this
  · intro hz a ha
    subst ha
    exact ⟨rfl, by have := bts_lt hb hz a rfl; omega⟩
/-- What a read's closure has to be. -/
structure ReadBy (f : Nat) (caps : Array Value) (w : World) (D : Option Nat) (bs : List UInt8) (S : Nat → Prop) (G : World → Prop) (en : Ending → World → Prop) : Prop where
  fn : ∀ args w, (callFunc f args).run Try.prog w = .ok (.enter f args) w
  old : ∀ k, S k → k < w.heap.size
  by' : ∀ w1, Below w.heap.size w w1 → RdrAt w1 (w.heap.size + 1) D bs → Calls Try.prog f (#[.pointer (some ⟨w.heap.size + 1, 0, none⟩)] ++ caps) w1 fun e w2 => en e w2 ∧ Chg (fun k => S k ∨ k = w.heap.size + 1) w1 w2 ∧ G w2
  keep : ∀ w2 w3, Chg (· = w.heap.size) w2 w3 → w.heap.size < w2.heap.size → G w2 → G w3
/-- A read whose closure throws: it hands back what was thrown. -/
theorem read_thrown {f : Nat} {caps : Array Value} {code : Int} {S : Nat → Prop} {G : World → Prop} {ao : Option Addr} {n c : Nat} {bs : List UInt8} {w : World} (hb : Bts w ao bs) (hl : bs.length = n) (hnc : n ≤ c) (hm : c ≤ maxLen)
    (h : ReadBy f caps w (ao.map (·.block)) bs S G fun e _ => e = .panicked (thrown code)) :
    Calls Try.prog 17 #[.slice ao n c, .func (.func f) #[] caps] w fun e w' => e = .returned (.int .i64 code) ∧ Chg S w w' ∧ G w' := by
  have hmf : ∀ (fn : Fn) (first cap : Array Value) (w : World), (Instr.makeFunc fn first cap).run Try.prog w = .ok (.func fn first cap) w := fun _ _ _ _ => rfl
  have HR := Lib.hid (readWorld_rdr w hb hl hnc hm)
  have HC := Lib.hid (readWorld_cell w (.slice ao n c))
  have HZ := Lib.hid (readWorld_size w (.slice ao n c))
  have HW := Lib.hid (readWorld_below w (.slice ao n c))
  have hcf := h.fn
  have HH := Lib.hid h
  clear h hb hm
  go_enter_defers Try.func17, Try.ntmps17
  go_wp2_with ((with_reducible refine (HH.out.by' _ HW.out HR.out).mono ?_); rintro e w1 ⟨rfl, hg, hq⟩; have HG := Lib.hid (And.intro hg hq); clear hg hq)
  have hlt : w.heap.size < (readWorld w (.slice ao n c)).heap.size := by rw [HZ.out]; omega
  have h1 : w1.heap[w.heap.size]? = some (.cells #[.int .i64 0] 24 (0, 0)) := HG.out.1.heap HC.out (by rintro (h | h); exact Nat.lt_irrefl _ (HH.out.old _ h); omega)
  refine leaves_cons (f := 39) (args := #[.pointer (some ⟨w.heap.size, 0, none⟩)]) (by simp) (by simp [go_sem]) ?_
  refine (catch_thrown w.heap.size code (.int .i64 0) [] w1 ?_ ?_ (heap_lt h1)).mono ?_
  · rw [heap_cell h1]; rfl
  · exact heap_frozen h1 0
  rintro e u' w2 ⟨rfl, rfl, hg2, hc2⟩
  have hcc : w2.cell? ⟨w.heap.size, 0, none⟩ = some (.int .i64 code) := hc2
  have hrd : Chg S w w2 := by
    refine ((Chg.of_below HW.out S).trans HG.out.1 ?_).trans hg2 ?_
    · rintro i hi (h | h)
      · exact h
      · omega
    · intro i hi h; omega
  have hq2 : G w2 := HH.out.keep _ _ hg2 (heap_lt h1) HG.out.2
  simp [Leaves, settle, results, Try.results17, go_sem, hcc]
  exact ⟨hrd, hq2⟩
/-- A read whose closure panics with a number: it goes on. -/
theorem read_panics {f : Nat} {caps : Array Value} {x : Value} {S : Nat → Prop} {G : World → Prop} {ao : Option Addr} {n c : Nat} {bs : List UInt8} {w : World} (hb : Bts w ao bs) (hl : bs.length = n) (hnc : n ≤ c) (hm : c ≤ maxLen)
    (h : ReadBy f caps w (ao.map (·.block)) bs S G fun e w2 => e = .panicked [{ v := .iface 3 x, recovered := false }]) :
    Calls Try.prog 17 #[.slice ao n c, .func (.func f) #[] caps] w fun e w' => e = .panicked [{ v := .iface 3 x, recovered := false }, { v := .iface 3 x, recovered := true }] ∧ Chg S w w' ∧ G w' := by
  have hmf : ∀ (fn : Fn) (first cap : Array Value) (w : World), (Instr.makeFunc fn first cap).run Try.prog w = .ok (.func fn first cap) w := fun _ _ _ _ => rfl
  have HR := Lib.hid (readWorld_rdr w hb hl hnc hm)
  have HC := Lib.hid (readWorld_cell w (.slice ao n c))
  have HZ := Lib.hid (readWorld_size w (.slice ao n c))
  have HW := Lib.hid (readWorld_below w (.slice ao n c))
  have hcf := h.fn
  have HH := Lib.hid h
  clear h hb hm
  go_enter_defers Try.func17, Try.ntmps17
  go_wp2_with ((with_reducible refine (HH.out.by' _ HW.out HR.out).mono ?_); rintro e w1 ⟨rfl, hg, hq⟩; have HG := Lib.hid (And.intro hg hq); clear hg hq)
  have hlt : w.heap.size < (readWorld w (.slice ao n c)).heap.size := by rw [HZ.out]; omega
  refine leaves_cons (f := 39) (args := #[.pointer (some ⟨w.heap.size, 0, none⟩)]) (by simp) (by simp [go_sem]) ?_
  refine (catch_int w.heap.size x [] w1).mono ?_
  rintro e u' w2 ⟨rfl, rfl, rfl⟩
  have hrd : Chg S w w2 := by
    refine (Chg.of_below HW.out S).trans HG.out.1 ?_
    rintro i hi (h | h)
    · exact h
    · omega
  simp [Leaves, raised]
  exact ⟨hrd, HG.out.2⟩
/-- A read whose closure comes back, with so much left. -/
theorem read_ret {f : Nat} {caps : Array Value} {bs' : List UInt8} {code : Int} (hcode : code = if bs' = [] then 0 else 5) (hbs : bs'.length ≤ 9223372036854775807) {S : Nat → Prop} {G : World → Prop} {ao : Option Addr} {n c : Nat} {bs : List UInt8} {w : World} (hb : Bts w ao bs) (hl : bs.length = n) (hnc : n ≤ c) (hm : c ≤ maxLen)
    (h : ReadBy f caps w (ao.map (·.block)) bs S G fun e w2 => e = .returned (.tuple #[]) ∧ RdrAt w2 (w.heap.size + 1) (ao.map (·.block)) bs') :
    Calls Try.prog 17 #[.slice ao n c, .func (.func f) #[] caps] w fun e w' => e = .returned (.int .i64 code) ∧ Chg S w w' ∧ G w' := by
  have hmf : ∀ (fn : Fn) (first cap : Array Value) (w : World), (Instr.makeFunc fn first cap).run Try.prog w = .ok (.func fn first cap) w := fun _ _ _ _ => rfl
  have HR := Lib.hid (readWorld_rdr w hb hl hnc hm)
  have HC := Lib.hid (readWorld_cell w (.slice ao n c))
  have HZ := Lib.hid (readWorld_size w (.slice ao n c))
  have HW := Lib.hid (readWorld_below w (.slice ao n c))
  have hcf := h.fn
  have HH := Lib.hid h
  clear h hb hm
  by_cases hlen : bs'.length = 0
  · have HCO := Lib.hid (show code = 0 by rw [hcode, if_pos (List.length_eq_zero_iff.1 hlen)])
    clear hcode
    go_enter_defers Try.func17, Try.ntmps17
    go_wp2_with ((with_reducible refine (HH.out.by' _ HW.out HR.out).mono ?_); rintro e w1 ⟨⟨rfl, hr⟩, hg, hq⟩; have HG := Lib.hid (And.intro hr (And.intro hg hq)); have hz := hr; obtain ⟨ro, rc, hz1, -⟩ := hz; have hz2 := heap_cell hz1 0; simp at hz2; have hx1 : w1.heap[w.heap.size]? = some (.cells #[.int .i64 0] 24 (0, 0)) := hg.heap HC.out (by rintro (h | h); exact Nat.lt_irrefl _ (HH.out.old _ h); omega); have hx2 := heap_cell hx1 0; simp at hx2; have hx3 := heap_frozen hx1 0; have HX := Lib.hid hx1; clear hg hq hr hz1 hx1)
    all_goals (
      refine leaves_cons (f := 39) (args := #[.pointer (some ⟨w.heap.size, 0, none⟩)]) (by simp) (by simp [go_sem]) ?_
      refine (catch_idle w.heap.size _).mono ?_
      rintro e u' w2 ⟨rfl, rfl, rfl⟩
      have hrd : Chg S w w1 := by
        refine (Chg.of_below HW.out S).trans HG.out.2.1 ?_
        rintro i hi (h | h)
        · exact h
        · omega
      simp [Leaves, settle, results, Try.results17, go_sem, hx2, HCO.out]
      exact ⟨hrd.trans (Chg.one w1 w.heap.size 0 _) (fun i hi h => absurd hi (by omega)), HH.out.keep _ _ (Chg.one w1 w.heap.size 0 _) (heap_lt HX.out) HG.out.2.2⟩)

  · have HCO := Lib.hid (show code = 5 by rw [hcode, if_neg (fun h => hlen (by rw [h]; rfl))])
    clear hcode
    go_enter_defers Try.func17, Try.ntmps17
    go_wp2_with ((with_reducible refine (HH.out.by' _ HW.out HR.out).mono ?_); rintro e w1 ⟨⟨rfl, hr⟩, hg, hq⟩; have HG := Lib.hid (And.intro hr (And.intro hg hq)); have hz := hr; obtain ⟨ro, rc, hz1, -⟩ := hz; have hz2 := heap_cell hz1 0; simp at hz2; have hx1 : w1.heap[w.heap.size]? = some (.cells #[.int .i64 0] 24 (0, 0)) := hg.heap HC.out (by rintro (h | h); exact Nat.lt_irrefl _ (HH.out.old _ h); omega); have hx2 := heap_cell hx1 0; simp at hx2; have hx3 := heap_frozen hx1 0; have HX := Lib.hid hx1; clear hg hq hr hz1 hx1)
    all_goals (
      refine leaves_cons (f := 39) (args := #[.pointer (some ⟨w.heap.size, 0, none⟩)]) (by simp) (by simp [go_sem]) ?_
      refine (catch_idle w.heap.size _).mono ?_
      rintro e u' w2 ⟨rfl, rfl, rfl⟩
      have hrd : Chg S w w1 := by
        refine (Chg.of_below HW.out S).trans HG.out.2.1 ?_
        rintro i hi (h | h)
        · exact h
        · omega
      simp [Leaves, settle, results, Try.results17, go_sem, hx2, HCO.out]
      exact ⟨hrd.trans (Chg.one w1 w.heap.size 0 _) (fun i hi h => absurd hi (by omega)), HH.out.keep _ _ (Chg.one w1 w.heap.size 0 _) (heap_lt HX.out) HG.out.2.2⟩)

end Go.Proofs.Ytgodnlcjbfdkhaa
