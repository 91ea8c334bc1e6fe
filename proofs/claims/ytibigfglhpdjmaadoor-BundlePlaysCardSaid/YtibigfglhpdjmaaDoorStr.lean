/-
  BYTES AS A STRING, in the walk and in the statements.
-/
import Derived.Test.YtibigfglhpdjmaaDoorMem
import Derived.Lib.SlBytesConst
import Derived.Tactics
import Derived.Tactics2
namespace Go.Proofs.YtibigfglhpdjmaaDoor
open Go Go.RowKit
/-! ### bytes as a string -/
def strOf (bs : List UInt8) : ByteArray := ⟨bs.toArray⟩
theorem ba_loop (b : ByteArray) : ∀ n i r, b.size - i = n → ByteArray.toList.loop b i r = r.reverse ++ b.data.toList.drop i := by
  intro n
  induction n with
  | zero =>
    intro i r h
    rw [ByteArray.toList.loop]
    have hs : b.data.toList.length = b.size := by rw [Array.length_toList]; rfl
    rw [if_neg (by omega), List.drop_of_length_le (by omega), List.append_nil]
  | succ n ih =>
    intro i r h
    rw [ByteArray.toList.loop]
    have hs : b.data.toList.length = b.size := by rw [Array.length_toList]; rfl
    rw [if_pos (by omega), ih (i + 1) _ (by omega), List.reverse_cons, List.append_assoc]
    congr 1
    have hi : i < b.data.toList.length := by omega
    rw [List.drop_eq_getElem_cons hi]
    simp [ByteArray.get!]
    rw [getElem!_pos]
theorem ba_toList (b : ByteArray) : b.toList = b.data.toList := by
  unfold ByteArray.toList
  rw [ba_loop b _ 0 [] rfl]; rfl
theorem strOf_toList (bs : List UInt8) : (strOf bs).toList = bs := by rw [ba_toList]; rfl
theorem strOf_nums (bs : List UInt8) : strOfNums (bs.map fun b => (b.toNat : Int)) = strOf bs := by
  simp [strOfNums, strOf, Function.comp_def]
theorem conv_bytes {P : Program} (w : World) {src e dst : TypeId} (hs : P.underlying src = some (.slice e)) (he : P.underlying e = some (.int .u8)) (hd : P.underlying dst = some .string) (ao : Option Addr) (n c : Nat) (bs : List UInt8) (hl : bs.length = n) (hb : Bts w ao bs) :
    (convert src dst (.slice ao n c)).run P w = .ok (.string (strOf bs)) w := by
  subst hl
  cases hz : bs with
  | nil =>
    subst hz
    cases ao with
    | none => rw [run_convert_bytes_nil w src e hs he _ _ dst hd]; rfl
    | some a =>
      obtain ⟨b, o, s⟩ := a
      rw [run_convert_bytes_string w src dst e _ _ c hs he hd, run_bytesToString w _ _ c [] (by simp [loadCells, loadCellsFrom])]
      rfl
  | cons x xs =>
    rw [← hz]
    obtain ⟨b, off, rfl, hc⟩ := hb.at (by rw [hz]; simp)
    rw [run_convert_bytes_arg w src e hs he b off bs.length c (bs.map fun b => (b.toNat : Int)) (by simp) (fun i hi => by rw [hc i hi]; simp [hi]) dst hd, strOf_nums]
end Go.Proofs.YtibigfglhpdjmaaDoor
