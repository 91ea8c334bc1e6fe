/-
  THE LAW PackBack OF LAYER 2, WALKED: what was put is taken.
-/
import Derived.Test.YtggidllaodloiaaPackV
import Derived.Deep.RegionWith
namespace Go.Proofs.Ytggidllaodloiaa
open Go Go.RowKit

theorem ube_app (l : List UInt8) (n : Nat) : l.foldl (fun n c => n * 256 + c.toNat) n = n * 256 ^ l.length + ube l := by
  unfold ube
  induction l generalizing n with
  | nil => simp
  | cons c cs ih =>
    simp only [List.foldl_cons, List.length_cons]
    rw [ih (n * 256 + c.toNat), ih (0 * 256 + c.toNat), Nat.pow_succ]
    simp only [Nat.zero_mul, Nat.zero_add]
    rw [Nat.add_mul, Nat.add_assoc, Nat.mul_assoc, Nat.mul_comm 256]
theorem ube_cons (c : UInt8) (l : List UInt8) : ube (c :: l) = c.toNat * 256 ^ l.length + ube l := by
  have := ube_app l c.toNat
  rw [← this]
  simp [ube]
theorem be_succ (k n : Nat) : be (k + 1) n = UInt8.ofNat (n / 256 ^ k) :: be k n := by
  apply List.ext_getElem?
  intro j
  cases j with
  | zero => rw [be_get _ _ _ (by omega)]; simp
  | succ j =>
    by_cases hj : j < k
    · rw [be_get _ _ _ (by omega), List.getElem?_cons_succ, be_get _ _ _ hj]
      rw [show k + 1 - 1 - (j + 1) = k - 1 - j by omega]
    · rw [List.getElem?_eq_none (by rw [be_length]; omega), List.getElem?_cons_succ, List.getElem?_eq_none (by rw [be_length]; omega)]
theorem ube_be (k n : Nat) : ube (be k n) = n % 256 ^ k := by
  induction k with
  | zero => simp [be, ube, Nat.mod_one]
  | succ k ih =>
    rw [be_succ, ube_cons, ih, be_length, UInt8.toNat_ofNat']
    have h := Nat.mod_mul (x := n) (a := 256 ^ k) (b := 256)
    rw [Nat.pow_succ 256 k, h, Nat.mul_comm (256 ^ k), show (2 : Nat) ^ 8 = 256 from rfl]
    omega
theorem be_take (k n : Nat) (rest : List UInt8) : (be k n ++ rest).take k = be k n := by
  rw [List.take_append_of_le_length (by rw [be_length]; exact Nat.le_refl _), List.take_of_length_le (by rw [be_length]; exact Nat.le_refl _)]
theorem be_drop' (k n : Nat) (rest : List UInt8) : (be k n ++ rest).drop k = rest := by
  rw [List.drop_append, List.drop_of_length_le (by rw [be_length]; exact Nat.le_refl _), be_length]; simp
theorem ru32_put (p : Nat) (D : Option Nat) (n : Nat) (rest : List UInt8) (w : World) (h : RdrAt w p D (be 4 n ++ rest)) (hn : n < 4294967296) (hb : rest.length ≤ 70368744177664) :
    Calls Try.prog 28 #[.pointer (some ⟨p, 0, none⟩)] w fun e w' => e = .returned (.int .u32 (n : Int)) ∧ RdrAt w' p D rest ∧ Chg (· = p) w w' := by
  have := ru32_any p D _ w h (by simp [be_length]) (by rw [List.length_append, be_length]; omega)
  rwa [be_take, be_drop', ube_be, Nat.mod_eq_of_lt (by omega)] at this
end Go.Proofs.Ytggidllaodloiaa
