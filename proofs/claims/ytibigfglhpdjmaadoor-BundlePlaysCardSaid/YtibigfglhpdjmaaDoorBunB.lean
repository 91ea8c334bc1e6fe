/-
  LAYER 16: hex, Name.
-/
import Derived.Test.YtibigfglhpdjmaaDoorBunA
namespace Go.Proofs.YtibigfglhpdjmaaDoor
open Go Go.RowKit

theorem Tab.drew {w : World} (h : Tab w) : Tab w.drew := h
theorem Tab.drewN {w : World} (h : Tab w) (n : Nat) : Tab (w.drewN n) := h
/-- Four digits, or more. -/
def pad4 (n : Nat) : List UInt8 := List.replicate (4 - (hexN n).length) 48 ++ hexN n
def nameOf (a b : Nat) : ByteArray := strOf (pad4 a ++ 45 :: pad4 b)
theorem hexN_len (n : Nat) (h : n ≤ 65536) : 1 ≤ (hexN n).length ∧ (hexN n).length ≤ 5 := by
  rw [hexN]; split
  · simp
  · rw [List.length_append, hexN]; split
    · simp
    · rw [List.length_append, hexN]; split
      · simp
      · rw [List.length_append, hexN]; split
        · simp
        · rw [List.length_append, hexN, if_pos (by omega)]
          simp
theorem ba_app (a b : List UInt8) : (⟨a.toArray⟩ : ByteArray) ++ ⟨b.toArray⟩ = strOf (a ++ b) := by
  apply ByteArray.ext
  simp [strOf]
-- BEGIN1
theorem fmt16i (n : Nat) (w : World) (hT : Tab w) (hn : n ≤ 65536) : Calls Tryd.prog 38 #[.int .i64 (n : Int), .int .i64 16] w fun e w' => e = .returned (.string (strOf (hexN n))) ∧ Below w.heap.size w w' := by
  have hw : IntKind.u64.wrap (n : Int) = (n : Int) := IntWalk.u64_in _ (by omega)
  have h0 : ¬ (n : Int) < 0 := by omega
  go_enter Tryd.func38, Tryd.ntmps38
  go_wp2_with fail
  go_at_call 45
  (with_reducible refine (bits16 n _ hT (by omega)).mono ?_)
  rintro e1 w1 ⟨rfl, hb⟩
  go_wp2
  go_ret
  exact ⟨rfl, hb⟩
-- END1
theorem fmt16 (n : Nat) (w : World) (hT : Tab w) (hn : n ≤ 65536) : Calls Tryd.prog 31 #[.int .i64 (n : Int), .int .i64 16] w fun e w' => e = .returned (.string (strOf (hexN n))) ∧ Below w.heap.size w w' := by
  go_enter Tryd.func31, Tryd.ntmps31
  go_wp2_with fail
  (with_reducible refine (fmt16i n _ hT hn).mono ?_)
  rintro e1 w1 ⟨rfl, hb⟩
  go_wp2
  go_ret
  exact ⟨rfl, hb⟩
-- BEGIN2
theorem hex_any (n : Nat) (w : World) (hT : Tab w) (hn : n ≤ 65536) : Calls Tryd.prog 23 #[.int .i64 (n : Int)] w fun e w' => e = .returned (.string (strOf (pad4 n))) ∧ Below w.heap.size w w' := by
  have hl := hexN_len n hn
  have hs : (strOf (hexN n)).size = (hexN n).length := by simp [strOf, ByteArray.size]
  have HP := Lib.hid (show strOf (pad4 n) = strOf (List.replicate (4 - (hexN n).length) 48 ++ hexN n) from rfl)
  rw [HP.out]
  have hA : (strOf (hexN n)) = ⟨(hexN n).toArray⟩ := rfl
  have HF2 := Lib.hid (fmt16 n w hT hn)
  rw [hA] at HF2 hs
  generalize hexN n = l at *
  clear HP hA
  obtain ⟨h1, h5⟩ := hl
  have hc : l.length = 1 ∨ l.length = 2 ∨ l.length = 3 ∨ l.length = 4 ∨ l.length = 5 := by omega
  rcases hc with hc | hc | hc | hc | hc
  all_goals (
    rw [hc] at hs ⊢
    go_enter Tryd.func23, Tryd.ntmps23
    go_wp2_with fail
    (with_reducible refine HF2.out.mono ?_)
    rintro e1 w1 ⟨rfl, hb⟩
    go_wp2
    go_ret
    refine ⟨congrArg (fun s => Ending.returned (Value.string s)) ?_, hb⟩
    apply ByteArray.ext
    simp [strOf, List.replicate]
    try rfl)
-- END2
theorem pad_len (n : Nat) (h : n ≤ 65536) : 4 ≤ (pad4 n).length ∧ (pad4 n).length ≤ 5 := by
  have := hexN_len n h
  rw [pad4, List.length_append, List.length_replicate]
  omega
theorem pad_size (n : Nat) (h : n ≤ 65536) : (strOf (pad4 n)).size ≤ 5 := by
  have := pad_len n h
  simp [strOf, ByteArray.size]
  omega
-- BEGIN3
theorem name_any (a b : Nat) (w : World) (hT : Tab w) (ha : a ≤ 65536) (hb : b ≤ 65536) : Calls Tryd.prog 9 #[.int .i64 (a : Int), .int .i64 (b : Int)] w fun e w' => e = .returned (.string (nameOf a b)) ∧ Below w.heap.size w w' := by
  have HN := Lib.hid (show nameOf a b = strOf (pad4 a ++ 45 :: pad4 b) from rfl)
  rw [HN.out]
  have hsa := pad_size a ha
  have hsb := pad_size b hb
  have hsc : (strOf (pad4 a) ++ (⟨#[45]⟩ : ByteArray)).size ≤ 6 := by rw [ByteArray.size_append]; have : (⟨#[45]⟩ : ByteArray).size = 1 := rfl; omega
  go_enter Tryd.func9, Tryd.ntmps9
  go_wp2_with fail
  (with_reducible refine (hex_any a _ hT ha).mono ?_)
  rintro e1 w1 ⟨rfl, hb1⟩
  go_wp2_with fail
  (with_reducible refine (hex_any b _ (hT.below hb1) hb).mono ?_)
  rintro e2 w2 ⟨rfl, hb2⟩
  go_wp2
  go_ret
  refine ⟨congrArg (fun s => Ending.returned (Value.string s)) ?_, hb1.trans (hb2.mono hb1.size)⟩
  apply ByteArray.ext
  simp [strOf]
-- END3
end Go.Proofs.YtibigfglhpdjmaaDoor
