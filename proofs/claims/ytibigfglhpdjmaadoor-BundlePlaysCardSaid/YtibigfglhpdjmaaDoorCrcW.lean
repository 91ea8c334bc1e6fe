/-
  THE WALKS OF LAYER 1: crc.More, crc.Sum, and the document's Sum, at any bytes.
-/
import Derived.Test.YtibigfglhpdjmaaDoorProg
import Derived.Test.YtibigfglhpdjmaaDoorKit
import Derived.Test.YtibigfglhpdjmaaDoorCrcT
import Derived.Deep.LoopGhost
import Derived.Lib.SlBytesConst
import Derived.KernelRfl
namespace Go.Proofs.YtibigfglhpdjmaaDoor
open Go Go.RowKit

theorem max32 : (IntKind.u32.max : Int) = ((~~~ (0#32) : BitVec 32).toNat : Int) := by decide
theorem not_xor0 (x : BitVec 32) : ~~~ (0#32) ^^^ x = ~~~ x := by
  apply BitVec.eq_of_getLsbD_eq
  intro i hi
  simp only [BitVec.getLsbD_not, BitVec.getLsbD_xor, hi, decide_true, Bool.true_and, BitVec.getLsbD_zero, Bool.not_false, Bool.true_xor]
theorem not32 (x : BitVec 32) : bits .xor .u32 IntKind.u32.max (x.toNat : Int) = ((~~~ x).toNat : Int) := by
  rw [max32, xor32, not_xor0]
theorem lsb_odd (y : BitVec 32) : y.getLsbD 0 = decide (y.toNat % 2 = 1) := by rw [BitVec.getLsbD, Nat.testBit_zero]
theorem stp_odd (y : BitVec 32) (h : ((y.toNat : Int) % 2 == 1) = true) : bits .xor .u32 ((y.toNat : Int) / 2) 2197175160 = ((stp y).toNat : Int) := by
  have h1 : y.getLsbD 0 = true := by rw [lsb_odd]; simp only [beq_iff_eq] at h; simp only [decide_eq_true_eq]; omega
  rw [show (2197175160 : Int) = ((2197175160#32 : BitVec 32).toNat : Int) from rfl]
  have h2 := half32 y
  rw [show (2 : Int) = ((2 : Nat) : Int) from rfl] at *
  rw [h2, xor32]
  unfold stp; rw [h1]; rfl
theorem stp_even (y : BitVec 32) (h : ((y.toNat : Int) % 2 == 1) = false) : (y.toNat : Int) / 2 = ((stp y).toNat : Int) := by
  have h1 : y.getLsbD 0 = false := by rw [lsb_odd]; simp only [beq_eq_false_iff_ne] at h; simp only [decide_eq_false_iff_not]; omega
  rw [half32 y]
  unfold stp; rw [h1]; simp
theorem stp_go (y : BitVec 32) : bits .xor .u32 ((y.toNat : Int) / 2) (bits .and .u32 (-bits .and .u32 (y.toNat : Int) 1 % 4294967296) 2197175160) = ((stp y).toNat : Int) := by
  have e1 : (1 : Int) = ((1#32 : BitVec 32).toNat : Int) := rfl
  have e2 : (2197175160 : Int) = ((2197175160#32 : BitVec 32).toNat : Int) := rfl
  have e3 : -bits .and .u32 (y.toNat : Int) 1 % 4294967296 = (((bif y.getLsbD 0 then (BitVec.allOnes 32) else 0#32)).toNat : Int) := by
    rw [e1, and32]
    have e4 : y &&& 1#32 = bif y.getLsbD 0 then 1#32 else 0#32 := by
      apply BitVec.eq_of_getLsbD_eq
      intro i hi
      rw [BitVec.getLsbD_and]
      by_cases h0 : i = 0
      · subst h0; cases y.getLsbD 0 <;> rfl
      · have h1 : (1#32).getLsbD i = false := by simp [h0]
        rw [h1]; cases y.getLsbD 0 <;> simp [h0]
    rw [e4]
    cases y.getLsbD 0 <;> decide
  rw [e3, e2, and32]
  have h2 := half32 y
  rw [show (2 : Int) = ((2 : Nat) : Int) from rfl] at *
  rw [h2, xor32]
  unfold stp
  cases y.getLsbD 0 <;> simp
theorem byte32 (c : UInt8) : (c.toNat : Int) % 4294967296 = ((BitVec.ofNat 32 c.toNat).toNat : Int) := by
  rw [BitVec.toNat_ofNat]; rfl

/-- crc.More, at any bytes. -/
theorem more_any (sum : BitVec 32) (ao : Option Addr) (c : Nat) (bs : List UInt8) (w : World) (hn : bs.length ≤ 140737488351232) (hc : Bts w ao bs) :
    Calls Tryd.prog 32 #[.int .u32 (sum.toNat : Int), .slice ao bs.length c] w fun e w' => e = .returned (.int .u32 ((more sum bs).toNat : Int)) ∧ w = w' := by
  have HC := Lib.hid hc; clear hc
  go_enter Tryd.func32, Tryd.ntmps32
  go_wp2
  go_loopg [5, 13] bs.length (fun g x i wr => wr = w ∧ ∃ k : Nat, g + k = bs.length ∧ x = .int .u32 ((crcs (~~~ sum) (bs.take k)).toNat : Int) ∧ i = .int .i64 k)
  case atStart =>
    refine ⟨rfl, 0, by omega, ?_, rfl⟩
    rw [not32]; rfl
  case round =>
    obtain ⟨rfl, k, hk, rfl, rfl⟩ := hrel
    by_cases hlt : k < bs.length
    · obtain ⟨b, off, rfl, hcell⟩ := HC.out.at (by omega)
      have h1 := hcell k hlt
      have HT := Lib.hid (show crcs (~~~ sum) (bs.take (k + 1)) = byt (crcs (~~~ sum) (bs.take k)) bs[k] by rw [List.take_succ_eq_append_getElem hlt, crcs_append]; rfl)
      generalize crcs (~~~ sum) (bs.take k) = X at *
      generalize bs[k] = y at *
      clear hcell HC
      go_wp2
      obtain ⟨wo, rfl⟩ : ∃ wo : World, wo = wr := ⟨_, rfl⟩
      obtain ⟨G, rfl⟩ : ∃ G, G = gk := ⟨_, rfl⟩
      go_loopg [5, 21] 8 (fun g x i wr => wr = wo ∧ ∃ m : Nat, g + m = 8 ∧ x = .int .u32 ((rep stp m (X ^^^ BitVec.ofNat 32 y.toNat)).toNat : Int) ∧ i = .int .i64 m)
      case atStart =>
        refine ⟨rfl, 0, rfl, ?_, rfl⟩
        rw [byte32, xor32]; rfl
      case round =>
        obtain ⟨rfl, m, hm, rfl, rfl⟩ := hrel
        have HR := Lib.hid (show rep stp (m + 1) (X ^^^ BitVec.ofNat 32 y.toNat) = stp (rep stp m (X ^^^ BitVec.ofNat 32 y.toNat)) from rfl)
        have H8 := Lib.hid (show m = 8 → rep stp m (X ^^^ BitVec.ofNat 32 y.toNat) = byt X y by rintro rfl; rfl)
        generalize rep stp m (X ^^^ BitVec.ofNat 32 y.toNat) = Y at *
        by_cases hlt : m < 8
        · go_wp2
          go_roundg (gk - 1)
          case measure => omega
          case rel => exact ⟨rfl, m + 1, by omega, by rw [stp_go, HR.out], by go_num⟩
        · go_wp2
          go_roundg (G - 1)
          case measure => omega
          case rel => exact ⟨rfl, k + 1, by omega, by rw [H8.out (by omega), HT.out], by go_num⟩
    · go_wp2
      go_ret
      refine ⟨?_, rfl⟩
      rw [not32, List.take_of_length_le (by omega)]; rfl

theorem more_any' (sum : BitVec 32) (ao : Option Addr) (n c : Nat) (bs : List UInt8) (w : World) (hl : bs.length = n) (hn : n ≤ 140737488351232) (hc : Bts w ao bs) :
    Calls Tryd.prog 32 #[.int .u32 (sum.toNat : Int), .slice ao n c] w fun e w' => e = .returned (.int .u32 ((more sum bs).toNat : Int)) ∧ w = w' := by
  subst hl; exact more_any sum ao c bs w hn hc
/-- crc.Sum. -/
theorem sum_any (ao : Option Addr) (c : Nat) (bs : List UInt8) (w : World) (hn : bs.length ≤ 140737488351232) (hc : Bts w ao bs) :
    Calls Tryd.prog 24 #[.slice ao bs.length c] w fun e w' => e = .returned (.int .u32 ((crc bs).toNat : Int)) ∧ w = w' := by
  have HC := Lib.hid hc; clear hc
  go_enter Tryd.func24, Tryd.ntmps24
  go_wp2_with (go_at_call 32; refine (more_any 0#32 _ _ _ _ hn HC.out).mono ?_; rintro e w' ⟨rfl, rfl⟩)
  go_ret
  exact ⟨rfl, rfl⟩
theorem sum_any' (ao : Option Addr) (n c : Nat) (bs : List UInt8) (w : World) (hl : bs.length = n) (hn : n ≤ 140737488351232) (hc : Bts w ao bs) :
    Calls Tryd.prog 24 #[.slice ao n c] w fun e w' => e = .returned (.int .u32 ((crc bs).toNat : Int)) ∧ w = w' := by
  subst hl; exact sum_any ao c bs w hn hc
theorem sum_q (ao : Option Addr) (n c : Nat) (bs : List UInt8) (w : World) (hl : bs.length = n) (hn : n ≤ 140737488351232) (hc : Bts w ao bs) :
    Calls Tryd.prog 24 #[.slice ao n c] w fun e w' => e = .returned (.int .u32 ((crc bs).toNat : Int)) ∧ w' = w :=
  (sum_any' ao n c bs w hl hn hc).mono fun _ _ h => ⟨h.1, h.2.symm⟩
/-- The document's Sum. -/
theorem refsum_any (ao : Option Addr) (c : Nat) (bs : List UInt8) (w : World) (hn : bs.length ≤ 140737488351232) (hc : Bts w ao bs) :
    Calls Tryd.prog 11 #[.slice ao bs.length c] w fun e w' => e = .returned (.int .u32 ((crc bs).toNat : Int)) ∧ w = w' := by
  have HC := Lib.hid hc; clear hc
  go_enter Tryd.func11, Tryd.ntmps11
  go_wp2
  go_loopg [3, 4] bs.length (fun g x i wr => wr = w ∧ ∃ k : Nat, g + k = bs.length ∧ x = .int .u32 ((crcs (~~~ 0#32) (bs.take k)).toNat : Int) ∧ i = .int .i64 k)
  case atStart => exact ⟨rfl, 0, by omega, rfl, rfl⟩
  case round =>
    obtain ⟨rfl, k, hk, rfl, rfl⟩ := hrel
    by_cases hlt : k < bs.length
    · obtain ⟨b, off, rfl, hcell⟩ := HC.out.at (by omega)
      have h1 := hcell k hlt
      have HT := Lib.hid (show crcs (~~~ 0#32) (bs.take (k + 1)) = byt (crcs (~~~ 0#32) (bs.take k)) bs[k] by rw [List.take_succ_eq_append_getElem hlt, crcs_append]; rfl)
      generalize crcs (~~~ 0#32) (bs.take k) = X at *
      generalize bs[k] = y at *
      clear hcell HC
      obtain ⟨wo, rfl⟩ : ∃ wo : World, wo = wr := ⟨_, rfl⟩
      obtain ⟨G, rfl⟩ : ∃ G, G = gk := ⟨_, rfl⟩
      go_wp2
      go_loopg [3, 5] 8 (fun g x i wr => wr = wo ∧ ∃ m : Nat, g + m = 8 ∧ x = .int .u32 ((rep stp m (X ^^^ BitVec.ofNat 32 y.toNat)).toNat : Int) ∧ i = .int .i64 m)
      case atStart =>
        refine ⟨rfl, 0, rfl, ?_, rfl⟩
        rw [byte32, xor32]; rfl
      case round =>
        obtain ⟨rfl, m, hm, rfl, rfl⟩ := hrel
        have HR := Lib.hid (show rep stp (m + 1) (X ^^^ BitVec.ofNat 32 y.toNat) = stp (rep stp m (X ^^^ BitVec.ofNat 32 y.toNat)) from rfl)
        have H8 := Lib.hid (show m = 8 → rep stp m (X ^^^ BitVec.ofNat 32 y.toNat) = byt X y by rintro rfl; rfl)
        generalize rep stp m (X ^^^ BitVec.ofNat 32 y.toNat) = Y at *
        by_cases hlt : m < 8
        · go_wp2
          · go_roundg (gk - 1)
            case measure => omega
            case rel => exact ⟨rfl, m + 1, by omega, by rw [HR.out, stp_odd Y ‹_›], by go_num⟩
          · go_roundg (gk - 1)
            case measure => omega
            case rel => exact ⟨rfl, m + 1, by omega, by rw [HR.out, stp_even Y ‹_›], by go_num⟩
        · go_wp2
          go_roundg (G - 1)
          case measure => omega
          case rel => exact ⟨rfl, k + 1, by omega, by rw [H8.out (by omega), HT.out], by go_num⟩
    · go_wp2
      go_ret
      refine ⟨?_, rfl⟩
      rw [List.take_of_length_le (by omega), show (4294967295 : Int) = ((~~~ (0#32) : BitVec 32).toNat : Int) from rfl, xor32, BitVec.xor_comm, not_xor0]
      rfl
theorem refsum_any' (ao : Option Addr) (n c : Nat) (bs : List UInt8) (w : World) (hl : bs.length = n) (hn : n ≤ 140737488351232) (hc : Bts w ao bs) :
    Calls Tryd.prog 11 #[.slice ao n c] w fun e w' => e = .returned (.int .u32 ((crc bs).toNat : Int)) ∧ w = w' := by
  subst hl; exact refsum_any ao c bs w hn hc
end Go.Proofs.YtibigfglhpdjmaaDoor
