/-
  LAYER 16: a number's digits of base sixteen.
-/
import Derived.Test.YtibigfglhpdjmaaDoorBase
import Derived.Test.YtibigfglhpdjmaaDoorFlat
import Derived.Test.YtibigfglhpdjmaaDoorStr
namespace Go.Proofs.YtibigfglhpdjmaaDoor
open Go Go.RowKit

/-- What the library's table tells at sixteen. -/
def Tab (w : World) : Prop := w.cell? ⟨2, 15, none⟩ = some (.int .u8 4)
theorem Tab.below {w w' : World} (h : Tab w) (hb : Below w.heap.size w w') : Tab w' := by
  unfold Tab World.cell? at *
  rw [hb.block 2 (by
    rcases Nat.lt_or_ge 2 w.heap.size with h1 | h1
    · exact h1
    · rw [Array.getElem?_eq_none h1] at h; cases h)]
  exact h
def hx (d : Nat) : UInt8 := #[48, 49, 50, 51, 52, 53, 54, 55, 56, 57, 97, 98, 99, 100, 101, 102][d]?.getD 0
/-- A number's digits of base sixteen. -/
def hexN (n : Nat) : List UInt8 := if n < 16 then [hx n] else hexN (n / 16) ++ [hx (n % 16)]
-- BEGIN1
theorem tz64 (w : World) (hT : Tab w) : Calls Tryd.prog 54 #[.int .u64 16] w fun e w' => e = .returned (.int .i64 4) ∧ Below w.heap.size w w' := by
  unfold Tab at hT
  have hx : IntKind.u64.wrap (bits BinOp.and IntKind.u64 16 (IntKind.u64.wrap (-16)) * 285870213051353865) / 288230376151711744 = 15 := by decide +kernel
  go_enter Tryd.func54, Tryd.ntmps54
  go_wp2
  go_ret
  exact ⟨rfl, by first | exact Below.refl _ _ | exact (Below.refl _ _).drew | exact below_drewN (Below.refl _ _) _⟩
-- END1
-- BEGIN2
theorem tz (w : World) (hT : Tab w) : Calls Tryd.prog 52 #[.int .u64 16] w fun e w' => e = .returned (.int .i64 4) ∧ Below w.heap.size w w' := by
  go_enter Tryd.func52, Tryd.ntmps52
  go_wp2_with fail
  (with_reducible refine (tz64 _ hT).mono ?_)
  rintro e w' ⟨rfl, h⟩
  go_wp2
  go_ret
  exact ⟨rfl, h⟩
theorem pow2 (w : World) : Calls Tryd.prog 51 #[.int .i64 16] w fun e w' => e = .returned (.bool true) ∧ w' = w := by
  go_enter Tryd.func51, Tryd.ntmps51
  go_wp2
  go_ret
  exact ⟨rfl, rfl⟩
-- END2
def z65 : Array Value := Array.replicate 65 (.int .u8 0)
theorem zero65 (w : World) : Sem.run Tryd.prog (zeroValue 78) w = .ok (.agg z65) w := by kernel_rfl
theorem and15 (u : Nat) (h : u < 18446744073709551616) : bits .and .u64 (u : Int) 15 = ((u % 16 : Nat) : Int) := by
  have e : BitVec.ofInt 64 (u : Int) = BitVec.ofNat 64 u := by simp
  show IntKind.u64.wrap (((BitVec.ofInt 64 (u : Int)) &&& (BitVec.ofInt 64 15)).toNat : Int) = _
  have h2 : ((BitVec.ofNat 64 u) &&& (BitVec.ofInt 64 15)).toNat = u % 16 := by
    rw [BitVec.toNat_and, BitVec.toNat_ofNat, Nat.mod_eq_of_lt (by omega : u < 2 ^ 64), show (BitVec.ofInt 64 15).toNat = 2 ^ 4 - 1 from rfl, Nat.and_two_pow_sub_one_eq_mod]
  rw [e, h2, IntWalk.u64_in _ (by omega)]
theorem dig_of (B : ByteArray) (d : Nat) (h : d < B.size) (hd : d < 16) (key : ∀ e : Fin 16, B.data[e.1]? = some (hx e.1)) : B[d] = hx d := (Array.getElem?_eq_some_iff.1 (key ⟨d, hd⟩)).2
theorem cut65 (T i : Nat) (hi : i < 65) (W : World) : (Instr.sliceAt 78 (.pointer (some ⟨T, 0, none⟩)) (some (.int .i64 (i : Int))) none none).run Tryd.prog W = .ok (.slice (some ⟨T, i, none⟩) (65 - i) (65 - i)) W := by
  have hal : Tryd.prog.arrayLen 78 = 65 := by simp [Program.arrayLen, Tryd.underlying78]
  rw [run_sliceAt_array_l W 78 ⟨T, 0, none⟩ (by simp [Program.arrayLen, Program.elem, Tryd.underlying78]) .i64 (i : Int) (by omega) (by rw [hal]; omega)]
  rw [hal]
  simp [Program.elem, Tryd.underlying78, Tryd.sizeOf5, slicedAt, add_plain]
  omega
theorem drop_put {cs : Array Value} {i : Nat} {l : List UInt8} {c : UInt8} (hs : cs.size = 65) (hi : i < 65) (hd : cs.toList.drop (i + 1) = l.map cb) : (cs.setIfInBounds i (cb c)).toList.drop i = (c :: l).map cb := by
  rw [Array.toList_setIfInBounds, List.drop_eq_getElem_cons (by simp [hs, hi]), List.getElem_set_self, List.drop_set_of_lt (by omega), hd]
  rfl
theorem bts_from {W : World} {T i : Nat} {cs : Array Value} {t : TypeId} {fz : Nat × Nat} {l : List UInt8} (hh : W.heap[T]? = some (.cells cs t fz)) (hd : cs.toList.drop i = l.map cb) : Bts W (some ⟨T, i, none⟩) l := by
  refine fun _ => ⟨T, i, rfl, fun k hk => ?_⟩
  rw [heap_cell hh, ← hd]
  simp
-- BEGIN3
set_option maxHeartbeats 1000000 in
set_option maxRecDepth 100000 in
theorem bits16 (u : Nat) (w : World) (hT : Tab w) (hu : u < 18446744073709551616) : Calls Tryd.prog 45 #[.slice none 0 0, .int .u64 (u : Int), .int .i64 16, .bool false, .bool false] w fun e w' => e = .returned (.tuple #[.slice none 0 0, .string ⟨(hexN u).toArray⟩]) ∧ Below w.heap.size w w' := by
  have hz := zero65
  have HT := Lib.hid (hT.below ((Below.refl _ w).alloc (Nat.le_refl _) (.cells z65 78)))
  go_enter Tryd.func45, Tryd.ntmps45
  go_wp2_with fail
  · go_at_call 51
    refine (pow2 _).mono ?_
    rintro e1 w1 ⟨rfl, rfl⟩
    go_wp2_with fail
    refine (tz _ HT.out).mono ?_
    rintro e2 w2 ⟨rfl, hb2⟩
    have HB := Lib.hid (((Below.refl _ w).alloc (Nat.le_refl _) _).trans (hb2.mono (by rw [size_alloc]; omega)))
    have HC := Lib.hid ((hb2.block _ (by rw [size_alloc]; omega)).trans (heap_top w (.cells z65 78)))
    clear hb2
    go_wp2_with fail
    go_loopg [1, 13] 16 (fun g uv iv wr => ∃ (v k j : Nat) (l : List UInt8) (cs : Array Value), g + k = 16 ∧ v < 16 ^ g ∧ uv = .int .u64 (v : Int) ∧ iv = .int .i64 (j : Int) ∧ j + k = 65 ∧ hexN u = hexN v ++ l ∧ l.length = k ∧ Below w.heap.size w wr ∧ wr.heap[w.heap.size]? = some (.cells cs 78 (0, 0)) ∧ cs.size = 65 ∧ cs.toList.drop j = l.map cb)
    case atStart => exact ⟨u, 0, 65, [], z65, rfl, by omega, rfl, rfl, rfl, by simp, rfl, HB.out, HC.out, by simp [z65], by simp [z65]⟩
    case round =>
      obtain ⟨v, k, j, l, cs, hgk, hv, rfl, rfl, hj, hl, hlk, hb, hh, hs, hd⟩ := hrel
      obtain ⟨i, rfl⟩ : ∃ i, j = i + 1 := ⟨j - 1, by omega⟩
      obtain ⟨c0, hc0⟩ : ∃ c0, cs[i]? = some c0 := ⟨cs[i]'(by omega), by simp⟩
      have hcell : wr.cell? ⟨w.heap.size, i, none⟩ = some c0 := (heap_cell hh i).trans hc0
      have hfz : wr.frozen? ⟨w.heap.size, i, none⟩ = false := heap_frozen hh i
      have hi65 : i < 65 := by omega
      have H := Lib.hid (And.intro hl (And.intro hlk (And.intro hb (And.intro hh (And.intro hs (And.intro hd hv))))))
      clear hl hlk hb hh hs hd hc0 hv
      have hv64 : v < 18446744073709551616 := Nat.lt_of_lt_of_le H.out.2.2.2.2.2.2 (show 16 ^ gk ≤ 16 ^ 16 from Nat.pow_le_pow_right (by decide) (by omega))
      have hand : bits .and .u64 (v : Int) 15 = ((v % 16 : Nat) : Int) := and15 v hv64
      by_cases hge : 16 ≤ v
      · have hge' : (16 : Int) ≤ (v : Int) := by omega
        go_wp2
        obtain ⟨hl, hlk, hb, hh, hs, hd, hv⟩ := H.out
        go_roundg (gk - 1)
        case measure => cases gk <;> omega
        case rel =>
          rw [dig_of _ (v % 16) _ (Nat.mod_lt _ (by decide)) (by decide +kernel)]
          refine ⟨v / 16, k + 1, i, hx (v % 16) :: l, cs.setIfInBounds i (cb (hx (v % 16))), ?_, ?_, by push_cast; rfl, rfl, by omega, ?_, by simp [hlk], hb.setCell (p := ⟨w.heap.size, i, none⟩) (Nat.le_refl _) _, heap_set hh i _, by simp [hs], drop_put hs hi65 hd⟩
          · cases gk <;> omega
          · cases gk with
            | zero => omega
            | succ g => rw [Nat.pow_succ] at hv; simp only [Nat.add_sub_cancel]; omega
          · rw [hl, hexN, if_neg (by omega), List.append_assoc]; rfl
      · have hge' : ¬ (16 : Int) ≤ (v : Int) := by omega
        have hsl := cut65 w.heap.size i hi65
        have hdg : ∀ h, (⟨(48 :: 49 :: 50 :: 51 :: 52 :: 53 :: 54 :: 55 :: 56 :: 57 :: 97 :: 98 :: 99 :: 100 :: 101 :: 102 :: 103 :: 104 :: 105 :: 106 :: 107 :: 108 :: 109 :: 110 :: 111 :: 112 :: 113 :: 114 :: 115 :: 116 :: 117 :: 118 :: 119 :: 120 :: 121 :: 122 :: [] : List UInt8).toArray⟩ : ByteArray)[v]'h = hx v := fun h => dig_of _ v h (by omega) (by decide +kernel)
        have hcv : (convert 30 9 (.slice (some ⟨w.heap.size, i, none⟩) (65 - i) (65 - i))).run Tryd.prog (wr.setCell ⟨w.heap.size, i, none⟩ (.int .u8 ((hx v).toNat : Int))) = .ok (.string (strOf (hexN u))) (wr.setCell ⟨w.heap.size, i, none⟩ (.int .u8 ((hx v).toNat : Int))) := by
          obtain ⟨hl, hlk, hb, hh, hs, hd, hv⟩ := H.out
          have he : hexN u = hx v :: l := by rw [hl, hexN, if_pos (by omega)]; rfl
          rw [he]
          refine conv_bytes _ Tryd.underlying30 Tryd.underlying5 Tryd.underlying9 _ _ _ _ (by simp; omega) ?_
          exact bts_from (heap_set hh i _) (drop_put hs hi65 hd)
        go_wp2
        go_ret2
        exact ⟨rfl, H.out.2.2.1.setCell (p := ⟨w.heap.size, i, none⟩) (Nat.le_refl _) _⟩
-- END3
end Go.Proofs.YtibigfglhpdjmaaDoor
