/-
  JOINED BY fam.py out of: PackI, PackJ, PackD.
-/
import Derived.Test.YtackmgmaippajaaGreatFPa
import Derived.Test.YtackmgmaippajaaGreatFP
import Derived.StillTactics
-- part PackI
namespace Go.Proofs.YtackmgmaippajaaGreat
set_option maxRecDepth 100000
open Go Go.RowKit

theorem put4 (ao : Option Addr) (n cap : Nat) (bs cs : List UInt8) (N M : Nat) (w : World) (h : Own w 1 ao n cap (bs.map cb)) (hn : n ≤ 70368744177664) (hN : N < 18446744073709551616) (hM : n + 4 = M) (hc : cs = bs ++ be 4 N) :
    Calls Tryz.prog 36 #[.slice ao n cap, .int .u64 (N : Int), .int .i64 4] w fun e w' => ∃ ao' cap', e = .returned (.slice ao' M cap') ∧ SlApp w ao w' ao' M cap' cs := by
  subst hM hc
  exact put_any ao n cap bs N 4 w h hn hN (by decide)
set_option maxHeartbeats 1000000 in
set_option maxRecDepth 100000 in
theorem refframe_big (ao : Option Addr) (n c N : Nat) (bs : List UInt8) (w : World) (hl : bs.length = n) (hn : n ≤ 100000) (hb : Bts w ao bs) (hN : N = n + 8) :
    Calls Tryz.prog 40 #[.slice ao n c] w fun e w' => ∃ fo fc, e = .returned (.slice fo N fc) ∧ Below w.heap.size w w' ∧ Bts w' fo (frame bs) := by
  subst hl
  have HB := Lib.hid hb
  clear hb
  have hcr := (crc bs).isLt
  have hu := IntWalk.u64_in (bs.length : Int) (by omega)
  have hu2 := IntWalk.u64_in ((crc bs).toNat : Int) (by omega)
  go_enter Tryz.func40, Tryz.ntmps40
  go_wp2_with (first
    | (go_at_call 36; (with_reducible refine (put4 none 0 0 [] (be 4 bs.length) bs.length 4 _ (Own.nil' _ _) (by decide) (by omega) rfl rfl).mono ?_); rintro e1 w1 ⟨xo, xc, rfl, hx⟩; have hb1 := hx.other HB.out (by simp); have H1 := Lib.hid (And.intro hx hb1); clear hx hb1)
    | (go_at_call 58; (with_reducible refine (refsum_any' ao _ c bs _ rfl (by omega) H1.out.2).mono ?_); rintro e2 w2 ⟨rfl, rfl⟩)
    | (go_at_call 36; (with_reducible refine (put4 xo 4 xc (be 4 bs.length) (be 4 bs.length ++ be 4 (crc bs).toNat) (crc bs).toNat 8 _ H1.out.1.own (by decide) (by omega) rfl rfl).mono ?_); rintro e3 w3 ⟨yo, yc, rfl, hy⟩; have H3 := Lib.hid (H1.out.1.more hy.own hy.chg hy.at_); clear hy; have HB3 := Lib.hid (H3.out.other HB.out (by simp)))
    | (at_builtin; refine wpList_append' rfl (.tmp 10) (.tmp 11) el_u8 rfl rfl rfl H3.out.own (m := bs.length) (news := bs.map cb) (by rw [List.length_map, Nat.mul_one]) HB3.out (one_cb _) (by unfold maxLen; omega) (by omega) ?_; intro zo zc w4 hz hch _ hz2; have H4 := Lib.hid (And.intro hz (And.intro hch hz2)); clear hz hch hz2))
  go_ret
  obtain ⟨hz, hch, hz2⟩ := H4.out
  rw [← List.map_append] at hz
  have hm := H3.out.more hz hch hz2
  refine ⟨zo, zc, by rw [hN, Nat.add_comm bs.length 8]; rfl, hm.chg.below (Nat.le_refl _) (by rintro k ⟨a, ha, _⟩; cases ha), ?_⟩
  have := hm.own.bts
  simpa [frame] using this
theorem refframe_any (ao : Option Addr) (n c N : Nat) (bs : List UInt8) (w : World) (hl : bs.length = n) (hn : n ≤ 4096) (hb : Bts w ao bs) (hN : N = n + 8) :
    Calls Tryz.prog 40 #[.slice ao n c] w fun e w' => ∃ fo fc, e = .returned (.slice fo N fc) ∧ Below w.heap.size w w' ∧ Bts w' fo (frame bs) :=
  refframe_big ao n c N bs w hl (by omega) hb hN
end Go.Proofs.YtackmgmaippajaaGreat
-- part PackJ
namespace Go.Proofs.YtackmgmaippajaaGreat
set_option maxRecDepth 100000
open Go Go.RowKit

theorem refnum_at (p : Nat) (bs rs : List UInt8) (n X : Nat) (N : Int) (w : World) (h : RefAt w p bs 0) (hN : N = (n : Int)) (hn : n ≤ bs.length) (h8 : n ≤ 8) (hb : bs.length ≤ 140737488351232) (hX : ube (bs.take n) = X) (hr : bs.drop n = rs) :
    Calls Tryz.prog 59 #[.pointer (some ⟨p, 0, none⟩), .int .i64 N] w fun e w' => e = .returned (.int .u64 (X : Int)) ∧ RefAt w' p rs 0 ∧ Chg (· = p) w w' := by
  subst hX hr
  exact refnum_any p bs n N hN w h hn h8 hb
/-- What the document's Unframe gives. -/
def UnfIs (w : World) (bs : List UInt8) (e : Ending) (w' : World) : Prop := ∃ bo bc ro rc, e = .returned (.tuple #[.slice bo (unf bs).1.length bc, .slice ro (unf bs).2.1.length rc, .int .i64 ((unf bs).2.2 : Nat)]) ∧ Below w.heap.size w w' ∧ Bts w' bo (unf bs).1 ∧ Bts w' ro (unf bs).2.1
theorem unf_bad {w w' : World} {bs : List UInt8} {code : Nat} (hu : unf bs = ([], [], code)) (hw : Below w.heap.size w w') : UnfIs w bs (.returned (.tuple #[.slice none 0 0, .slice none 0 0, .int .i64 (code : Int)])) w' := by
  refine ⟨none, 0, none, 0, ?_, hw, ?_, ?_⟩
  · rw [hu]; rfl
  · rw [hu]; exact Bts.nil _ _
  · rw [hu]; exact Bts.nil _ _
end Go.Proofs.YtackmgmaippajaaGreat
-- part PackD
namespace Go.Proofs.YtackmgmaippajaaGreat
set_option maxRecDepth 100000
open Go Go.RowKit

def RefD (w : World) (p : Nat) (D : Option Nat) (bs : List UInt8) (code : Int) : Prop :=
  ∃ ao cap, w.heap[p]? = some (.cells #[.slice ao bs.length cap, .int .i64 code] 123 (0, 0)) ∧ Bts w ao bs ∧ bs.length ≤ cap ∧ cap ≤ maxLen ∧ (bs ≠ [] → ∀ a, ao = some a → a.block ≠ p) ∧ ∀ a, ao = some a → D = some a.block
set_option maxHeartbeats 1000000 in
set_option maxRecDepth 100000 in
theorem refnumD_any (p : Nat) (D : Option Nat) (bs : List UInt8) (n : Nat) (N : Int) (hN : N = (n : Int)) (w : World) (h : RefD w p D bs 0) (hn : n ≤ bs.length) (h8 : n ≤ 8) (hb : bs.length ≤ 140737488351232) :
    Calls Tryz.prog 59 #[.pointer (some ⟨p, 0, none⟩), .int .i64 N] w fun e w' => e = .returned (.int .u64 (ube (bs.take n) : Int)) ∧ RefD w' p D (bs.drop n) 0 ∧ Chg (· = p) w w' := by
  subst hN
  obtain ⟨ao, cap, h1, h2, h3, h4, h5, h6⟩ := h
  have HD := Lib.hid h6
  clear h6
  have z0 := heap_cell h1 0
  have z1 := heap_cell h1 1
  have z2 := heap_frozen h1 0
  simp at z0 z1
  have H := Lib.hid (And.intro h1 (And.intro h2 (And.intro h3 (And.intro h4 h5))))
  clear h1 h2 h5
  unfold maxLen at h4
  have hbt : ∀ u : Value, Bts (w.setCell ⟨p, 0, none⟩ u) ao bs := by
    intro u
    by_cases hz : bs = []
    · rw [hz]; exact Bts.nil _ _
    · exact (Chg.one _ _ _ _).row H.out.2.1 (fun a ha => H.out.2.2.2.2 hz a ha)
  have HB := Lib.hid hbt
  clear hbt
  have hni : ¬ (bs.length : Int) < (n : Int) := by omega
  have hnl : (n : Int) ≤ (bs.length : Int) := by omega
  have hle : ∀ k : Nat, k < n → (k : Int) < (bs.length : Int) := by intro k hk; omega
  go_enter Tryz.func59, Tryz.ntmps59
  go_wp2
  go_loopg [5, 6] n (fun g x i wr => wr = w ∧ ∃ k : Nat, g + k = n ∧ x = .int .u64 (ube (bs.take k) : Int) ∧ i = .int .i64 k)
  case atStart => exact ⟨rfl, 0, by omega, rfl, rfl⟩
  case round =>
    obtain ⟨rfl, k, hk, rfl, rfl⟩ := hrel
    by_cases hlt : k < n
    · have hkx : k < bs.length := by omega
      obtain ⟨b, off, rfl, hcell⟩ := H.out.2.1.at (by omega)
      have h1 := hcell k hkx
      have HT := Lib.hid (show ube (bs.take (k + 1)) = ube (bs.take k) * 256 + bs[k].toNat by rw [List.take_succ_eq_append_getElem hkx, ube_snoc])
      have hu := ube_lt (bs.take k)
      rw [List.length_take, Nat.min_eq_left (by omega)] at hu
      have hu2 : ube (bs.take k) < 72057594037927936 := Nat.lt_of_lt_of_le hu (Nat.pow_le_pow_right (n := 256) (i := k) (j := 7) (by decide) (by omega))
      clear hu
      have hy := (bs[k]).toNat_lt
      generalize ube (bs.take k) = X at *
      generalize bs[k] = y at *
      have HM := Lib.hid (mul256 X y hu2)
      have hi0 := IntWalk.u64_in (y.toNat : Int) (by omega)
      have hi1 := IntWalk.u64_in ((X : Int) * 256) (by omega)
      have hi2 := IntWalk.u64_in ((X : Int) * 256 + (y.toNat : Int)) (by omega)
      clear hcell HB
      go_wp2
      go_roundg (gk - 1)
      case measure => omega
      case rel => exact ⟨rfl, k + 1, by omega, by rw [HT.out, ← HM.out], by go_num⟩
    · obtain rfl : k = n := by omega
      clear hle
      by_cases hc : cap = k
      · go_wp2
        go_ret
        refine ⟨rfl, ⟨ao, 0, ?_, ?_, by rw [List.length_drop]; omega, by simp, fun hx => ?_, HD.out⟩, Chg.one _ _ _ _⟩
        · rw [heap_set H.out.1]; simp; try omega
        · rw [List.drop_of_length_le (by omega)]; exact Bts.nil _ _
        · exact absurd (List.drop_of_length_le (by omega)) hx
      · go_wp2
        go_ret
        refine ⟨rfl, ⟨ao.map (fun x => x.add k), cap - k, ?_, ?_, by rw [List.length_drop]; omega, by unfold maxLen; omega, ?_, fun a ha => ?_⟩, Chg.one _ _ _ _⟩
        · rw [heap_set H.out.1]; simp
        · exact (HB.out _).drop' k
        · intro hx a ha
          have hz : bs ≠ [] := by rintro rfl; simp at hx
          cases ao with
          | none => cases ha
          | some a0 => cases ha; rw [block_add]; exact H.out.2.2.2.2 hz a0 rfl
        · cases ao with
          | none => cases ha
          | some a0 => cases ha; rw [block_add]; exact HD.out a0 rfl
theorem refnumD_at (p : Nat) (D : Option Nat) (bs rs : List UInt8) (n X : Nat) (N : Int) (w : World) (h : RefD w p D bs 0) (hN : N = (n : Int)) (hn : n ≤ bs.length) (h8 : n ≤ 8) (hb : bs.length ≤ 140737488351232) (hX : ube (bs.take n) = X) (hr : bs.drop n = rs) :
    Calls Tryz.prog 59 #[.pointer (some ⟨p, 0, none⟩), .int .i64 N] w fun e w' => e = .returned (.int .u64 (X : Int)) ∧ RefD w' p D rs 0 ∧ Chg (· = p) w w' := by
  subst hX hr
  exact refnumD_any p D bs n N hN w h hn h8 hb
/-- What the document's Unframe gives. -/
def UnfD (D : Option Nat) (w : World) (bs : List UInt8) (e : Ending) (w' : World) : Prop := ∃ bo bc ro rc, e = .returned (.tuple #[.slice bo (unf bs).1.length bc, .slice ro (unf bs).2.1.length rc, .int .i64 ((unf bs).2.2 : Nat)]) ∧ Below w.heap.size w w' ∧ Bts w' bo (unf bs).1 ∧ Bts w' ro (unf bs).2.1 ∧ ∀ a, bo = some a → D = some a.block
theorem unfD_bad {D : Option Nat} {w w' : World} {bs : List UInt8} {code : Nat} (hu : unf bs = ([], [], code)) (hw : Below w.heap.size w w') : UnfD D w bs (.returned (.tuple #[.slice none 0 0, .slice none 0 0, .int .i64 (code : Int)])) w' := by
  refine ⟨none, 0, none, 0, ?_, hw, ?_, ?_, by simp⟩
  · rw [hu]; rfl
  · rw [hu]; exact Bts.nil _ _
  · rw [hu]; exact Bts.nil _ _
end Go.Proofs.YtackmgmaippajaaGreat
