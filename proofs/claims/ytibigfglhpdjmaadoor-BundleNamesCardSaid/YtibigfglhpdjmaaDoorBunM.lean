/-
  BundleNames, walked.
-/
import Derived.Test.YtibigfglhpdjmaaDoorBunF
import Derived.Deep.QuietTactic
namespace Go.Proofs.YtibigfglhpdjmaaDoor
open Go Go.RowKit

def un (c : UInt8) : Nat := if c.toNat < 58 then c.toNat - 48 else c.toNat - 87
theorem un_hx (d : Nat) (h : d < 16) : un (hx d) = d := by
  have key : ∀ e : Fin 16, un (hx e.1) = e.1 := by decide +kernel
  exact key ⟨d, h⟩
def dec (l : List UInt8) : Nat := l.foldl (fun s c => s * 16 + un c) 0
theorem dec_snoc (l : List UInt8) (c : UInt8) : dec (l ++ [c]) = dec l * 16 + un c := by simp [dec]
theorem dec_hexN (n : Nat) : dec (hexN n) = n := by
  induction n using Nat.strongRecOn with
  | _ n ih =>
    rw [hexN]
    split
    · rename_i h
      have : dec [hx n] = 0 * 16 + un (hx n) := rfl
      rw [this, un_hx n h]; omega
    · rename_i h
      rw [dec_snoc, ih _ (by omega), un_hx _ (by omega)]; omega
theorem dec_zeros (k : Nat) (l : List UInt8) : dec (List.replicate k 48 ++ l) = dec l := by
  induction k with
  | zero => rfl
  | succ k ih =>
    rw [← ih]
    show List.foldl _ 0 _ = List.foldl _ 0 _
    rw [List.replicate_succ, List.cons_append, List.foldl_cons]
    rfl
theorem dec_pad (n : Nat) : dec (pad4 n) = n := by rw [pad4, dec_zeros, dec_hexN]
theorem pad4_four (n : Nat) (h : n < 65536) : (pad4 n).length = 4 := by
  have h1 : (hexN n).length ≤ 4 := by
    rw [hexN]; split
    · simp
    · rw [List.length_append, hexN]; split
      · simp
      · rw [List.length_append, hexN]; split
        · simp
        · rw [List.length_append, hexN, if_pos (by omega)]; simp
  rw [pad4, List.length_append, List.length_replicate]; omega
theorem name_inj {a b c d : Nat} (ha : a < 65536) (hc : c < 65536) : nameOf a b = nameOf c d ↔ a = c ∧ b = d := by
  constructor
  · intro h
    have h1 : pad4 a ++ 45 :: pad4 b = pad4 c ++ 45 :: pad4 d := by
      have := congrArg (fun s : ByteArray => s.data.toList) h
      simpa [nameOf, strOf] using this
    have h2 := List.append_inj h1 (by rw [pad4_four a ha, pad4_four c hc])
    have h3 := congrArg dec h2.1
    have h4 := congrArg dec (List.cons.inj h2.2).2
    rw [dec_pad, dec_pad] at h3 h4
    exact ⟨h3, h4⟩
  · rintro ⟨rfl, rfl⟩; rfl
def digs (a : Nat) : List UInt8 := [hx (a / 4096 % 16), hx (a / 256 % 16), hx (a / 16 % 16), hx (a % 16)]
theorem pad4_digs (a : Nat) (h : a < 65536) : pad4 a = digs a := by
  have z : (48 : UInt8) = hx 0 := rfl
  rw [pad4, digs]
  by_cases h1 : a < 16
  · have e : hexN a = [hx a] := by rw [hexN, if_pos h1]
    rw [e, show a / 4096 % 16 = 0 by omega, show a / 256 % 16 = 0 by omega, show a / 16 % 16 = 0 by omega, show a % 16 = a by omega]; rfl
  · by_cases h2 : a < 256
    · have e : hexN a = [hx (a / 16), hx (a % 16)] := by rw [hexN, if_neg h1, hexN, if_pos (by omega)]; rfl
      rw [e, show a / 4096 % 16 = 0 by omega, show a / 256 % 16 = 0 by omega, show a / 16 % 16 = a / 16 by omega]; rfl
    · by_cases h3 : a < 4096
      · have e : hexN a = [hx (a / 16 / 16), hx (a / 16 % 16), hx (a % 16)] := by rw [hexN, if_neg h1, hexN, if_neg (by omega), hexN, if_pos (by omega)]; rfl
        rw [e, show a / 4096 % 16 = 0 by omega, show a / 256 % 16 = a / 16 / 16 by omega]; rfl
      · have e : hexN a = [hx (a / 16 / 16 / 16), hx (a / 16 / 16 % 16), hx (a / 16 % 16), hx (a % 16)] := by rw [hexN, if_neg h1, hexN, if_neg (by omega), hexN, if_neg (by omega), hexN, if_pos (by omega)]; rfl
        rw [e, show a / 4096 % 16 = a / 16 / 16 / 16 by omega, show a / 256 % 16 = a / 16 / 16 % 16 by omega]; rfl
theorem name_any' (A B : Int) (a b : Nat) (hA : A = (a : Int)) (hB : B = (b : Int)) (w : World) (hT : Tab w) (ha : a ≤ 65536) (hb : b ≤ 65536) : Calls Tryd.prog 9 #[.int .i64 A, .int .i64 B] w fun e w' => e = .returned (.string (nameOf a b)) ∧ Below w.heap.size w w' := by
  subst hA; subst hB; exact name_any a b w hT ha hb
theorem name_size (a b : Nat) (ha : a < 65536) (hb : b ≤ 65536) : 9 ≤ (nameOf a b).size ∧ (nameOf a b).size ≤ 10 := by
  have h1 := pad4_four a ha
  have h2 := pad_len b hb
  have e : (nameOf a b).size = (pad4 a ++ 45 :: pad4 b).length := by simp [nameOf, strOf, ByteArray.size]
  rw [e, List.length_append, List.length_cons]; omega
theorem name_five (a b : Nat) (ha : a < 65536) : (nameOf a b).extract 0 5 = strOf (digs a ++ [45]) := by
  apply ByteArray.ext
  have h1 := pad4_four a ha
  rw [← pad4_digs a ha]
  have e : (nameOf a b).data.toList = pad4 a ++ 45 :: pad4 b := by simp [nameOf, strOf]
  have e2 : ((nameOf a b).extract 0 5).data = ((nameOf a b).data.toList.take 5).toArray := by
    rw [ByteArray.data_extract]
    apply Array.ext'
    simp
  rw [e2, e]
  have e3 : (pad4 a ++ 45 :: pad4 b).take 5 = pad4 a ++ [45] := by
    rw [List.take_append, h1, List.take_of_length_le (by omega)]; rfl
  rw [e3]
  rfl
theorem strOf_app (x y : List UInt8) : strOf x ++ strOf y = strOf (x ++ y) := ba_app x y
theorem name_last : nameOf 0 65536 = ⟨#[48, 48, 48, 48, 45, 49, 48, 48, 48, 48]⟩ := by
  have h0 : hexN 0 = [48] := by rw [hexN]; rfl
  have h1 : hexN 65536 = [49, 48, 48, 48, 48] := by
    rw [hexN, if_neg (by decide), hexN, if_neg (by decide), hexN, if_neg (by decide), hexN, if_neg (by decide), hexN, if_pos (by decide)]; rfl
  rw [nameOf, pad4, pad4, h0, h1]; rfl
theorem ba_inj {x y : ByteArray} (h : x.toList = y.toList) : x = y := by
  rw [ba_toList, ba_toList] at h
  obtain ⟨⟨x⟩⟩ := x
  obtain ⟨⟨y⟩⟩ := y
  simp at h
  rw [h]
theorem name_zero (w : World) (hT : Tab w) : Calls Tryd.prog 9 #[.int .i64 0, .int .i64 65536] w fun e w' => e = .returned (.string ⟨#[48, 48, 48, 48, 45, 49, 48, 48, 48, 48]⟩) ∧ Below w.heap.size w w' := by
  have := name_any 0 65536 w hT (by decide) (by decide)
  rw [name_last] at this
  exact this
theorem and15w (u q : Nat) (hq : q = u % 16) (h : u < 65536) : bits .and .u16 (u : Int) 15 = (q : Int) := by
  subst hq
  have e : BitVec.ofInt 16 (u : Int) = BitVec.ofNat 16 u := by simp
  show IntKind.u16.wrap (((BitVec.ofInt 16 (u : Int)) &&& (BitVec.ofInt 16 15)).toNat : Int) = _
  have h2 : ((BitVec.ofNat 16 u) &&& (BitVec.ofInt 16 15)).toNat = u % 16 := by
    rw [BitVec.toNat_and, BitVec.toNat_ofNat, Nat.mod_eq_of_lt (by omega : u < 2 ^ 16), show (BitVec.ofInt 16 15).toNat = 2 ^ 4 - 1 from rfl, Nat.and_two_pow_sub_one_eq_mod]
  rw [e, h2, IntWalk.u16_in _ (by omega)]
theorem cut_one (q : Nat) (h : q < 16) {E : ByteArray} (hE : E = (⟨(48 :: 49 :: 50 :: 51 :: 52 :: 53 :: 54 :: 55 :: 56 :: 57 :: 97 :: 98 :: 99 :: 100 :: 101 :: 102 :: [] : List UInt8).toArray⟩ : ByteArray).extract q (q + 1)) : E = strOf [hx q] := by
  have key : ∀ e : Fin 16, (⟨(48 :: 49 :: 50 :: 51 :: 52 :: 53 :: 54 :: 55 :: 56 :: 57 :: 97 :: 98 :: 99 :: 100 :: 101 :: 102 :: [] : List UInt8).toArray⟩ : ByteArray).extract e.1 (e.1 + 1) = strOf [hx e.1] := by decide +kernel
  rw [hE]; exact key ⟨q, h⟩
theorem cut_size (q : Nat) (h : q < 16) {E : ByteArray} (hE : E = (⟨(48 :: 49 :: 50 :: 51 :: 52 :: 53 :: 54 :: 55 :: 56 :: 57 :: 97 :: 98 :: 99 :: 100 :: 101 :: 102 :: [] : List UInt8).toArray⟩ : ByteArray).extract q (q + 1)) : E.size = 1 := by
  rw [cut_one q h hE]; rfl
-- BEGIN1
set_option maxHeartbeats 2000000 in
set_option maxRecDepth 100000 in
theorem bundleNames_any (a b c d : Nat) (ha : a < 65536) (hb : b < 65536) (hc : c < 65536) (hd : d < 65536) (W : World) (hT : Tab W) :
    Calls Tryd.prog 3 #[.int .u16 (a : Int), .int .u16 (b : Int), .int .u16 (c : Int), .int .u16 (d : Int)] W fun e w' => e = .returned (.bool true) ∧ Below W.heap.size W w' := by
  have HT := Lib.hid hT
  have ka := IntWalk.i64_in (a : Int) (by omega)
  have kb := IntWalk.i64_in (b : Int) (by omega)
  have kc := IntWalk.i64_in (c : Int) (by omega)
  have kd := IntWalk.i64_in (d : Int) (by omega)
  have kb1 := IntWalk.i64_in ((b : Int) + 1) (by omega)
  have kd1 := IntWalk.i64_in ((d : Int) + 1) (by omega)
  clear hT
  go_enter Tryd.func3, Tryd.ntmps3
  go_wp2_with fail
  (with_reducible refine (awake _ HT.out).mono ?_)
  rintro e1 w1 ⟨rfl, hb1⟩
  have H1 := Lib.hid hb1
  clear hb1
  go_wp2_with fail
  (with_reducible refine (name_any' _ _ a (b + 1) rfl (by push_cast; rfl) _ (HT.out.below H1.out) (by omega) (by omega)).mono ?_)
  rintro e2 w2 ⟨rfl, hb2⟩
  have H2 := Lib.hid (H1.out.trans (hb2.mono H1.out.size))
  clear hb2
  go_wp2_with fail
  (with_reducible refine (name_any' _ _ c (d + 1) rfl (by push_cast; rfl) _ (HT.out.below H2.out) (by omega) (by omega)).mono ?_)
  rintro e3 w3 ⟨rfl, hb3⟩
  have H3 := Lib.hid (H2.out.trans (hb3.mono H2.out.size))
  clear hb3
  go_wp2_with fail
  go_loopg [11, 12] 4 (fun g s i wr => Below W.heap.size W wr ∧ ∃ k : Nat, g + k = 4 ∧ s = .string (strOf ((digs a).take k)) ∧ i = .int .i64 (3 - (k : Int)))
  case atStart => exact ⟨H3.out, 0, rfl, rfl, rfl⟩
  case round =>
    obtain ⟨hbr, k, hk, rfl, rfl⟩ := hrel
    have HB := Lib.hid hbr
    clear hbr
    have hk5 : k = 0 ∨ k = 1 ∨ k = 2 ∨ k = 3 ∨ k = 4 := by omega
    rcases hk5 with rfl | rfl | rfl | rfl | rfl
    · obtain ⟨q, hq⟩ : ∃ q, q = a / 4096 % 16 := ⟨_, rfl⟩
      have hq16 : q < 16 := by omega
      have hand : bits .and .u16 ((a : Int) / 4096) 15 = (q : Int) := by exact and15w (a / 4096) q hq (by omega)
      have hw := IntWalk.u16_in ((q : Int) + 1) (by omega)
      have hsh : IntKind.i64.wrap 12 = 12 := by decide
      obtain ⟨E, hE⟩ : ∃ E, E = (⟨(48 :: 49 :: 50 :: 51 :: 52 :: 53 :: 54 :: 55 :: 56 :: 57 :: 97 :: 98 :: 99 :: 100 :: 101 :: 102 :: [] : List UInt8).toArray⟩ : ByteArray).extract q (q + 1) := ⟨_, rfl⟩
      have hEs := cut_size q hq16 hE
      have HE := Lib.hid (cut_one q hq16 hE)
      obtain ⟨S, hS⟩ : ∃ S, S = strOf ((digs a).take 0) := ⟨_, rfl⟩
      rw [← hS]
      have hSs : S.size ≤ 4 := by rw [hS]; simp [strOf, ByteArray.size, digs]
      have HS := Lib.hid (And.intro hS hq)
      have hE' := hE.symm
      clear hS hq hE
      go_wp2
      go_quiet (fail)
      go_wp2
      go_roundg (gk - 1)
      case measure => omega
      case rel => exact ⟨below_drewN HB.out _, 1, by omega, by rw [HS.out.1, HE.out, HS.out.2, strOf_app]; rfl, by go_num⟩
    · obtain ⟨q, hq⟩ : ∃ q, q = a / 256 % 16 := ⟨_, rfl⟩
      have hq16 : q < 16 := by omega
      have hand : bits .and .u16 ((a : Int) / 256) 15 = (q : Int) := by exact and15w (a / 256) q hq (by omega)
      have hw := IntWalk.u16_in ((q : Int) + 1) (by omega)
      have hsh : IntKind.i64.wrap 8 = 8 := by decide
      obtain ⟨E, hE⟩ : ∃ E, E = (⟨(48 :: 49 :: 50 :: 51 :: 52 :: 53 :: 54 :: 55 :: 56 :: 57 :: 97 :: 98 :: 99 :: 100 :: 101 :: 102 :: [] : List UInt8).toArray⟩ : ByteArray).extract q (q + 1) := ⟨_, rfl⟩
      have hEs := cut_size q hq16 hE
      have HE := Lib.hid (cut_one q hq16 hE)
      obtain ⟨S, hS⟩ : ∃ S, S = strOf ((digs a).take 1) := ⟨_, rfl⟩
      rw [← hS]
      have hSs : S.size ≤ 4 := by rw [hS]; simp [strOf, ByteArray.size, digs]
      have HS := Lib.hid (And.intro hS hq)
      have hE' := hE.symm
      clear hS hq hE
      go_wp2
      go_quiet (fail)
      go_wp2
      go_roundg (gk - 1)
      case measure => omega
      case rel => exact ⟨below_drewN HB.out _, 2, by omega, by rw [HS.out.1, HE.out, HS.out.2, strOf_app]; rfl, by go_num⟩
    · obtain ⟨q, hq⟩ : ∃ q, q = a / 16 % 16 := ⟨_, rfl⟩
      have hq16 : q < 16 := by omega
      have hand : bits .and .u16 ((a : Int) / 16) 15 = (q : Int) := by exact and15w (a / 16) q hq (by omega)
      have hw := IntWalk.u16_in ((q : Int) + 1) (by omega)
      have hsh : IntKind.i64.wrap 4 = 4 := by decide
      obtain ⟨E, hE⟩ : ∃ E, E = (⟨(48 :: 49 :: 50 :: 51 :: 52 :: 53 :: 54 :: 55 :: 56 :: 57 :: 97 :: 98 :: 99 :: 100 :: 101 :: 102 :: [] : List UInt8).toArray⟩ : ByteArray).extract q (q + 1) := ⟨_, rfl⟩
      have hEs := cut_size q hq16 hE
      have HE := Lib.hid (cut_one q hq16 hE)
      obtain ⟨S, hS⟩ : ∃ S, S = strOf ((digs a).take 2) := ⟨_, rfl⟩
      rw [← hS]
      have hSs : S.size ≤ 4 := by rw [hS]; simp [strOf, ByteArray.size, digs]
      have HS := Lib.hid (And.intro hS hq)
      have hE' := hE.symm
      clear hS hq hE
      go_wp2
      go_quiet (fail)
      go_wp2
      go_roundg (gk - 1)
      case measure => omega
      case rel => exact ⟨below_drewN HB.out _, 3, by omega, by rw [HS.out.1, HE.out, HS.out.2, strOf_app]; rfl, by go_num⟩
    · obtain ⟨q, hq⟩ : ∃ q, q = a % 16 := ⟨_, rfl⟩
      have hq16 : q < 16 := by omega
      have hand : bits .and .u16 (a : Int) 15 = (q : Int) := by exact and15w a q hq ha
      have hw := IntWalk.u16_in ((q : Int) + 1) (by omega)
      have hsh : IntKind.i64.wrap 0 = 0 := by decide
      obtain ⟨E, hE⟩ : ∃ E, E = (⟨(48 :: 49 :: 50 :: 51 :: 52 :: 53 :: 54 :: 55 :: 56 :: 57 :: 97 :: 98 :: 99 :: 100 :: 101 :: 102 :: [] : List UInt8).toArray⟩ : ByteArray).extract q (q + 1) := ⟨_, rfl⟩
      have hEs := cut_size q hq16 hE
      have HE := Lib.hid (cut_one q hq16 hE)
      obtain ⟨S, hS⟩ : ∃ S, S = strOf ((digs a).take 3) := ⟨_, rfl⟩
      rw [← hS]
      have hSs : S.size ≤ 4 := by rw [hS]; simp [strOf, ByteArray.size, digs]
      have HS := Lib.hid (And.intro hS hq)
      have hE' := hE.symm
      clear hS hq hE
      go_wp2
      go_quiet (fail)
      go_wp2
      go_roundg (gk - 1)
      case measure => omega
      case rel => exact ⟨below_drewN HB.out _, 4, by omega, by rw [HS.out.1, HE.out, HS.out.2, strOf_app]; rfl, by go_num⟩
    · have hx4 : (digs a).take 4 = digs a := rfl
      rw [hx4]
      have hn1 := name_size a (b + 1) ha (by omega)
      have hn2 := name_size c (d + 1) hc (by omega)
      have hfv : (nameOf a (b + 1)).extract 0 5 = strOf (digs a) ++ ⟨#[45]⟩ := (name_five a (b + 1) ha).trans (strOf_app (digs a) [45]).symm
      have hfl : ((nameOf a (b + 1)).extract 0 5).toList = (strOf (digs a) ++ ⟨#[45]⟩).toList := congrArg ByteArray.toList hfv
      have HI := Lib.hid (name_inj (b := b + 1) (d := d + 1) ha hc)
      have hx4s : (strOf (digs a)).size = 4 := rfl
      have HY := Lib.hid name_zero
      clear hfv hx4
      generalize nameOf a (b + 1) = X at *
      generalize nameOf c (d + 1) = Y at *
      generalize strOf (digs a) = D at *
      by_cases hac : a = c
      · by_cases hbd : b = d
        · obtain rfl : X = Y := HI.out.2 ⟨hac, by omega⟩
          subst hac; subst hbd
          clear HI
          as_aux_lemma =>
            go_wp2_with (go_at_call 9; (with_reducible refine (HY.out _ (HT.out.below HB.out)).mono ?_); rintro e4 w4 ⟨rfl, hb4⟩; have H4 := Lib.hid hb4; clear hb4)
            go_ret
            exact ⟨rfl, HB.out.trans (H4.out.mono HB.out.size)⟩
        · subst hac
          have hxy : (X.toList == Y.toList) = false := beq_eq_false_iff_ne.2 fun h => hbd (by have := (HI.out.1 (ba_inj h)).2; omega)
          have hbd' : ((b : Int) == (d : Int)) = false := beq_eq_false_iff_ne.2 (by omega)
          clear HI
          as_aux_lemma =>
            go_wp2_with (go_at_call 9; (with_reducible refine (HY.out _ (HT.out.below HB.out)).mono ?_); rintro e4 w4 ⟨rfl, hb4⟩; have H4 := Lib.hid hb4; clear hb4)
            go_ret
            exact ⟨rfl, HB.out.trans (H4.out.mono HB.out.size)⟩
      · have hxy : (X.toList == Y.toList) = false := beq_eq_false_iff_ne.2 fun h => hac (HI.out.1 (ba_inj h)).1
        have hac' : ((a : Int) == (c : Int)) = false := beq_eq_false_iff_ne.2 (by omega)
        clear HI
        as_aux_lemma =>
          go_wp2_with (go_at_call 9; (with_reducible refine (HY.out _ (HT.out.below HB.out)).mono ?_); rintro e4 w4 ⟨rfl, hb4⟩; have H4 := Lib.hid hb4; clear hb4)
          go_ret
          exact ⟨rfl, HB.out.trans (H4.out.mono HB.out.size)⟩
-- END1
theorem bundleNames_in (W : World) (base : Nat) (hT : Tab W) (v0 : Value) (v1 : Value) (v2 : Value) (v3 : Value) (k0 : Value.okWide Tryd.prog W .any base 22 v0) (k1 : Value.okWide Tryd.prog W .any base 22 v1) (k2 : Value.okWide Tryd.prog W .any base 22 v2) (k3 : Value.okWide Tryd.prog W .any base 22 v3) (r0 : Rd Tryd.prog W 22 v0.cells.toList) (r1 : Rd Tryd.prog W 22 v1.cells.toList) (r2 : Rd Tryd.prog W 22 v2.cells.toList) (r3 : Rd Tryd.prog W 22 v3.cells.toList) :
    Calls Tryd.prog 3 #[v0, v1, v2, v3] W fun e w' => e = .returned (.bool true) ∧ Below W.heap.size W w' := by
  obtain ⟨n0, rfl, h0⟩ := in_u16 Tryd.underlying22 k0 r0
  obtain ⟨n1, rfl, h1⟩ := in_u16 Tryd.underlying22 k1 r1
  obtain ⟨n2, rfl, h2⟩ := in_u16 Tryd.underlying22 k2 r2
  obtain ⟨n3, rfl, h3⟩ := in_u16 Tryd.underlying22 k3 r3
  exact bundleNames_any n0 n1 n2 n3 h0 h1 h2 h3 W hT
end Go.Proofs.YtibigfglhpdjmaaDoor
