/-
  LAYER 16: All, few, Hash.
-/
import Derived.Test.YtibigfglhpdjmaaDoorBunN
import Derived.Test.YtibigfglhpdjmaaDoorCrcW
import Derived.Lib.ConvBytes
namespace Go.Proofs.YtibigfglhpdjmaaDoor
open Go Go.RowKit

-- BEGIN1
theorem clone_int (ao : Option Addr) (n c : Nat) (bs : List Nat) (w : World) (hl : bs.length = n) (hn : n ≤ 1000000) (hc : Row w ao (bs.map ci)) :
    Calls Tryd.prog 28 #[.slice ao n c] w fun e w' => ∃ bo cap, e = .returned (.slice bo n cap) ∧ Below w.heap.size w w' ∧ Own w' 1 bo n cap (bs.map ci) ∧ ∀ a, bo = some a → w.heap.size ≤ a.block := by
  cases ao with
  | none =>
    have hb : bs = [] := by
      cases bs with
      | nil => rfl
      | cons b bs => obtain ⟨_, _, e, _⟩ := hc (by simp); cases e
    subst hb; subst hl
    have q := Lib.run_eql_slice_nil (P := Tryd.prog) w 41 3 none 0 c 0 0 Tryd.underlying41
    go_enter Tryd.func28, Tryd.ntmps28
    go_wp2
    go_ret
    exact ⟨none, 0, rfl, Below.refl _ _, Own.nil' _ _, by simp⟩
  | some a =>
    have HC := Lib.hid hc; clear hc
    have HL := Lib.hid hl; clear hl
    have q := Lib.run_eql_slice_nil (P := Tryd.prog) w 41 3 (some a) n c 0 0 Tryd.underlying41
    go_enter Tryd.func28, Tryd.ntmps28
    go_wp2_with (at_builtin; refine wpList_append' rfl (.tmp 5) (.tmp 6) el_i rfl rfl rfl (Own.alloc0 _ 1 _ _) (by rw [List.length_map, HL.out, Nat.mul_one]) (Row.below HC.out ((Below.refl _ _).alloc (Nat.le_refl _) _)) (ci_one bs) (by unfold maxLen; omega) (by omega) ?_; intro xo xc w2 hx hch _ hx2; simp only [Nat.zero_add, List.nil_append] at hx; have HO := Lib.hid hx; have HC2 := Lib.hid (chg_new (Below.refl _ _) hch); have HX2 := Lib.hid (new_blk (Below.refl _ _) hx2); clear hx hch hx2)
    go_ret
    exact ⟨xo, xc, rfl, HC2.out, HO.out, HX2.out⟩
theorem all_any (p : Nat) (l : List Nat) (F : List Nat) (w : World) (h : MapAt w p l F) (hl : l.length ≤ 1000) :
    Calls Tryd.prog 16 #[.pointer (some ⟨p, 0, none⟩)] w fun e w' => ∃ xo xc, e = .returned (.slice xo l.length xc) ∧ Below w.heap.size w w' ∧ Own w' 1 xo l.length xc (l.map ci) ∧ ∀ a, xo = some a → w.heap.size ≤ a.block := by
  obtain ⟨lo, n, cap, h⟩ := h
  have hlen := h.len
  have hc : w.cell? ⟨p, 0, none⟩ = some (.slice lo n cap) := heap_cell h.heap 0
  have HC := Lib.hid (clone_int lo n cap l w hlen (by omega) h.own.row)
  rw [hlen]
  clear h
  go_enter Tryd.func16, Tryd.ntmps16
  go_wp2_with fail
  (with_reducible refine HC.out.mono ?_)
  rintro e w1 ⟨xo, xc, rfl, h1, h2, h3⟩
  have H1 := Lib.hid (And.intro h1 (And.intro h2 h3))
  clear h1 h2 h3
  go_wp2
  go_ret
  exact ⟨xo, xc, rfl, H1.out⟩
-- END1
-- BEGIN2
/-- What 'few' answers. -/
def fewI (t : ActT) : Int := if t.raw then t.at_ else (t.at_ % 18446744073709551616 % 24) * 3000
theorem few_any (t : ActT) (w : World) (h0 : -9223372036854775808 ≤ t.at_) (h1 : t.at_ ≤ 9223372036854775807) : Calls Tryd.prog 14 #[.agg #[.bool t.join, .int .i64 t.at_, .bool t.raw]] w fun e w' => e = .returned (.int .i64 (fewI t)) ∧ Below w.heap.size w w' := by
  obtain ⟨j, z, r⟩ := t
  have hf : fewI ⟨j, z, r⟩ = if r then z else (z % 18446744073709551616 % 24) * 3000 := rfl
  rw [hf]
  clear hf
  simp only at h0 h1
  obtain ⟨a0, a1, a2, _⟩ := cells3 (heap_top w (.cells #[.bool j, .int .i64 z, .bool r] 35))
  cases r with
  | true =>
    go_enter Tryd.func14, Tryd.ntmps14
    go_wp2
    go_ret
    exact ⟨rfl, (Below.refl _ w).alloc (Nat.le_refl _) _⟩
  | false =>
    have hw : IntKind.u64.wrap z = z % 18446744073709551616 := by rw [IntKind.wrap_u64]
    obtain ⟨q, hq, hq24⟩ : ∃ q : Nat, z % 18446744073709551616 % 24 = (q : Int) ∧ q < 24 := ⟨(z % 18446744073709551616 % 24).toNat, by omega, by omega⟩
    have hqt : (z % 18446744073709551616).tmod 24 = (q : Int) := by rw [Int.tmod_eq_emod_of_nonneg (by omega)]; exact hq
    have hqw := IntWalk.i64_in (q : Int) (by omega)
    have hq3 := IntWalk.i64_in ((q : Int) * 3000) (by omega)
    rw [hq]
    go_enter Tryd.func14, Tryd.ntmps14
    go_wp2
    go_ret
    exact ⟨by simp, (Below.refl _ w).alloc (Nat.le_refl _) _⟩
-- END2
-- BEGIN3
theorem bw_below (w : World) (e : TypeId) (s : ByteArray) : Below w.heap.size w (Lib.bytesWorld w e s) :=
  ⟨rfl, rfl, rfl, by rw [Lib.bytesWorld_size]; omega, fun k hk => Lib.bytesWorld_at_old w e s k hk⟩
theorem bw_bts (w : World) (e : TypeId) (s : ByteArray) : Bts (Lib.bytesWorld w e s) (some ⟨w.heap.size, 0, none⟩) s.data.toList := by
  intro _
  refine ⟨_, 0, rfl, fun i v hv => ?_⟩
  rw [List.getElem?_map] at hv
  cases hi : s.data.toList[i]? with
  | none => rw [hi] at hv; cases hv
  | some c =>
    rw [hi] at hv
    cases hv
    have hil := (List.getElem?_eq_some_iff.1 hi).1
    rw [Array.length_toList] at hil
    rw [Nat.zero_add, Lib.bytesWorld_cell w e s i hil, List.getD_eq_getElem?_getD, hi]
    rfl
def hashOf (s : ByteArray) : Nat := (crc s.data.toList).toNat / 65536
theorem hashOf_lt (s : ByteArray) : hashOf s < 65536 := by
  have := (crc s.data.toList).isLt
  unfold hashOf; omega
theorem hash_any (s : ByteArray) (w : World) (hs : s.size ≤ 1000) : Calls Tryd.prog 10 #[.string s] w fun e w' => e = .returned (.int .i64 (hashOf s : Int)) ∧ Below w.heap.size w w' := by
  have hcv := fun w : World => Lib.run_convert_string_bytes (P := Tryd.prog) w 9 30 5 s Tryd.underlying9 Tryd.underlying30 Tryd.underlying5
  have hl : s.data.toList.length = s.size := by rw [Array.length_toList]; rfl
  have hH := hashOf_lt s
  have hhv : ((crc s.data.toList).toNat : Int) / 65536 = (hashOf s : Int) := by unfold hashOf; omega
  have HB := Lib.hid (bw_below w 5 s)
  have HC := Lib.hid (bw_bts w 5 s)
  generalize hashOf s = H at *
  have hHw := IntWalk.i64_in (H : Int) (by omega)
  go_enter Tryd.func10, Tryd.ntmps10
  go_wp2_with fail
  (with_reducible refine (sum_any' _ s.size _ s.data.toList _ hl (by omega) HC.out).mono ?_)
  rintro e w1 ⟨rfl, rfl⟩
  go_wp2
  go_ret
  exact ⟨rfl, HB.out⟩
-- END3
end Go.Proofs.YtibigfglhpdjmaaDoor
