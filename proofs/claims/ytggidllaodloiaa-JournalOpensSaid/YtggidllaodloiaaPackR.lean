/-
  LAYER 2: a reader in memory; what it takes, and what it throws.
-/
import Derived.Test.YtggidllaodloiaaPackW
import Derived.Defers
import Derived.Recover
namespace Go.Proofs.Ytggidllaodloiaa
open Go Go.RowKit

/-- A reader at block p; bs is left in it. What it reads lies in the block D. -/
def RdrAt (w : World) (p : Nat) (D : Option Nat) (bs : List UInt8) : Prop :=
  ∃ ao cap, w.heap[p]? = some (.cells #[.slice ao bs.length cap] 66 (0, 0)) ∧ Bts w ao bs ∧ bs.length ≤ cap ∧ cap ≤ maxLen ∧ (bs ≠ [] → ∀ a, ao = some a → D = some a.block ∧ a.block ≠ p)
theorem RdrAt.keep {w w' : World} {p : Nat} {D : Option Nat} {bs : List UInt8} (h : RdrAt w p D bs) {S : Nat → Prop} (hc : Chg S w w') (hp : ¬ S p) (hD : ∀ k, D = some k → ¬ S k) : RdrAt w' p D bs := by
  obtain ⟨ao, cap, h1, h2, h3, h4, h5⟩ := h
  refine ⟨ao, cap, hc.heap h1 hp, ?_, h3, h4, h5⟩
  by_cases hn : bs = []
  · rw [hn]; exact Bts.nil _ _
  · exact hc.row h2 (fun a ha => hD _ (h5 hn a ha).1)
theorem RdrAt.keep' {w w' : World} {p : Nat} {D : Option Nat} {bs : List UInt8} (h : RdrAt w p D bs) (hb : Below w.heap.size w w') : RdrAt w' p D bs := by
  obtain ⟨ao, cap, h1, h2, h3, h4, h5⟩ := h
  exact ⟨ao, cap, (Chg.of_below hb (fun _ => False)).heap h1 (fun h => h), h2.below hb, h3, h4, h5⟩
/-- What is thrown: an error's number. -/
def thrown (code : Int) : List PanicEntry := [{ v := .iface 78 (.agg #[.int .i64 code]), recovered := false }]
theorem take_short (p : Nat) (D : Option Nat) (bs : List UInt8) (n : Nat) (w : World) (h : RdrAt w p D bs) (hn : bs.length < n) (h64 : n < 18446744073709551616) (hb : bs.length ≤ 140737488351232) :
    Calls Try.prog 29 #[.pointer (some ⟨p, 0, none⟩), .int .u64 (n : Int)] w fun e w' => e = .panicked (thrown 4) ∧ w = w' := by
  obtain ⟨ao, cap, h1, h2, h3, h4, h5⟩ := h
  have z0 := heap_cell h1 0
  simp at z0
  clear h1 h2 h5
  go_enter Try.func29, Try.ntmps29
  go_wp2
  exact ⟨rfl, rfl, rfl⟩
theorem take_any (p : Nat) (D : Option Nat) (bs : List UInt8) (n : Nat) (w : World) (h : RdrAt w p D bs) (hn : n ≤ bs.length) (hb : bs.length ≤ 140737488351232) :
    Calls Try.prog 29 #[.pointer (some ⟨p, 0, none⟩), .int .u64 (n : Int)] w fun e w' => ∃ ao cap, e = .returned (.slice ao n cap) ∧ Bts w' ao (bs.take n) ∧ n ≤ cap ∧ cap ≤ maxLen ∧ RdrAt w' p D (bs.drop n) ∧ Chg (· = p) w w' := by
  obtain ⟨ao, cap, h1, h2, h3, h4, h5⟩ := h
  have z0 := heap_cell h1 0
  have z1 := heap_frozen h1 0
  simp at z0
  have H := Lib.hid (And.intro h1 (And.intro h2 (And.intro h3 (And.intro h4 h5))))
  clear h1 h2 h5
  unfold maxLen at h4
  have hbt : ∀ u : Value, Bts (w.setCell ⟨p, 0, none⟩ u) ao bs := by
    intro u
    by_cases hz : bs = []
    · rw [hz]; exact Bts.nil _ _
    · exact (Chg.one _ _ _ _).row H.out.2.1 (fun a ha => (H.out.2.2.2.2 hz a ha).2)
  have HB := Lib.hid hbt
  clear hbt
  by_cases hc : cap = n
  · subst hc
    have hbl : bs.length = cap := by omega
    have HBL := Lib.hid hbl
    go_enter Try.func29, Try.ntmps29
    go_wp2
    go_ret
    refine ⟨ao, cap, rfl, (HB.out _).take cap, Nat.le_refl _, H.out.2.2.2.1, ⟨ao, 0, ?_, ?_, by rw [List.length_drop]; omega, by simp, fun hx => ?_⟩, Chg.one _ _ _ _⟩
    · rw [heap_set H.out.1]; simp; omega
    · rw [List.drop_of_length_le (by omega)]; exact Bts.nil _ _
    · exact absurd (List.drop_of_length_le (by omega)) hx
  · go_enter Try.func29, Try.ntmps29
    go_wp2
    go_ret
    refine ⟨ao, cap, rfl, (HB.out _).take n, by omega, H.out.2.2.2.1, ⟨ao.map (fun x => x.add n), cap - n, ?_, ?_, by rw [List.length_drop]; omega, by unfold maxLen; omega, ?_⟩, Chg.one _ _ _ _⟩
    · rw [heap_set H.out.1]; simp
    · exact (HB.out _).drop' n
    · intro hx a ha
      have hz : bs ≠ [] := by rintro rfl; simp at hx
      cases ao with
      | none => cases ha
      | some a0 => cases ha; rw [block_add]; exact H.out.2.2.2.2 hz a0 rfl
/-- Bytes as a number, the first the greatest. -/
def ube (bs : List UInt8) : Nat := bs.foldl (fun n c => n * 256 + c.toNat) 0
theorem ube_snoc (bs : List UInt8) (c : UInt8) : ube (bs ++ [c]) = ube bs * 256 + c.toNat := by simp [ube]
theorem ube_lt (bs : List UInt8) : ube bs < 256 ^ bs.length := by
  suffices ∀ (bs : List UInt8) (n : Nat), bs.foldl (fun n c => n * 256 + c.toNat) n < (n + 1) * 256 ^ bs.length by
    have := this bs 0
    simpa [ube] using this
  intro bs
  induction bs with
  | nil => intro n; simp
  | cons c cs ih =>
    intro n
    have h := ih (n * 256 + c.toNat)
    have hc := c.toNat_lt
    simp only [List.foldl_cons, List.length_cons]
    refine Nat.lt_of_lt_of_le h ?_
    rw [Nat.pow_succ, Nat.mul_comm (256 ^ cs.length) 256, ← Nat.mul_assoc]
    exact Nat.mul_le_mul_right _ (by omega)
theorem acc64 (n : Nat) (c : UInt8) (h : n < 72057594037927936) : bits .or .u64 ((n : Int) * 256) (IntKind.u64.wrap (c.toNat : Int)) = ((n * 256 + c.toNat : Nat) : Int) := by
  have hc := c.toNat_lt
  have e0 : (n : Int) * 256 = ((n * 256 : Nat) : Int) := by omega
  have ew : IntKind.u64.wrap (c.toNat : Int) = (c.toNat : Int) := by rw [IntKind.wrap_u64]; omega
  rw [e0, ew]
  have e1 : ((n * 256 : Nat) : Int) = (((BitVec.ofNat 64 (n * 256)).toNat : Nat) : Int) := by rw [BitVec.toNat_ofNat, Nat.mod_eq_of_lt (by omega)]
  have e2 : (c.toNat : Int) = (((BitVec.ofNat 64 c.toNat).toNat : Nat) : Int) := by rw [BitVec.toNat_ofNat, Nat.mod_eq_of_lt (by omega)]
  rw [e1, e2]
  show IntKind.u64.wrap (((BitVec.ofInt 64 ((BitVec.ofNat 64 (n * 256)).toNat : Int)) ||| (BitVec.ofInt 64 ((BitVec.ofNat 64 c.toNat).toNat : Int))).toNat : Int) = _
  rw [ofInt_toNat, ofInt_toNat, IntKind.wrap_u64, BitVec.toNat_or, BitVec.toNat_ofNat, BitVec.toNat_ofNat, Nat.mod_eq_of_lt (by omega), Nat.mod_eq_of_lt (by omega)]
  have e3 : n * 256 ||| c.toNat = n * 256 + c.toNat := by
    apply Nat.eq_of_testBit_eq
    intro i
    rw [show n * 256 = 2 ^ 8 * n by omega, Nat.testBit_or, Nat.testBit_two_pow_mul_add n (show c.toNat < 2 ^ 8 by omega), Nat.testBit_two_pow_mul]
    by_cases hi : i < 8
    · have : ¬ 8 ≤ i := by omega
      simp [hi, this]
    · have h2 : 8 ≤ i := by omega
      have h3 : c.toNat.testBit i = false := Nat.testBit_lt_two_pow (Nat.lt_of_lt_of_le (show c.toNat < 2 ^ 8 by omega) (Nat.pow_le_pow_right (by decide) h2))
      simp [hi, h2, h3]
  rw [e3]; omega
theorem rnum_short (p : Nat) (D : Option Nat) (bs : List UInt8) (n : Nat) (N : Int) (hN : N = (n : Int)) (w : World) (h : RdrAt w p D bs) (hn : bs.length < n) (h64 : n < 18446744073709551616) (hb : bs.length ≤ 140737488351232) :
    Calls Try.prog 33 #[.pointer (some ⟨p, 0, none⟩), .int .u64 N] w fun e w' => e = .panicked (thrown 4) ∧ w = w' := by
  subst hN
  have H := Lib.hid h
  clear h
  go_enter Try.func33, Try.ntmps33
  go_wp2_with (go_at_call 29; (with_reducible refine (take_short p D bs n _ H.out hn h64 hb).mono ?_); rintro e w1 ⟨rfl, rfl⟩)
  exact ⟨rfl, rfl, rfl⟩
theorem rnum_any (p : Nat) (D : Option Nat) (bs : List UInt8) (n : Nat) (N : Int) (hN : N = (n : Int)) (w : World) (h : RdrAt w p D bs) (hn : n ≤ bs.length) (h8 : n ≤ 8) (hb : bs.length ≤ 140737488351232) :
    Calls Try.prog 33 #[.pointer (some ⟨p, 0, none⟩), .int .u64 N] w fun e w' => e = .returned (.int .u64 (ube (bs.take n) : Int)) ∧ RdrAt w' p D (bs.drop n) ∧ Chg (· = p) w w' := by
  subst hN
  have H := Lib.hid h
  clear h
  have hlen : (bs.take n).length = n := by rw [List.length_take]; omega
  go_enter Try.func33, Try.ntmps33
  go_wp2_with (go_at_call 29; (with_reducible refine (take_any p D bs n _ H.out hn hb).mono ?_); rintro e w1 ⟨ao, cap, rfl, hbt, hc, hm, hr, hg⟩; have HB := Lib.hid hbt; have HR := Lib.hid (And.intro hr hg); clear hbt hm hr hg)
  generalize hxs : bs.take n = xs at *
  have HXS := Lib.hid hxs
  clear hxs
  go_loopg [5, 12] n (fun g x i wr => wr = w1 ∧ ∃ k : Nat, g + k = n ∧ x = .int .u64 (ube (xs.take k) : Int) ∧ i = .int .i64 k)
  case atStart => exact ⟨rfl, 0, by omega, rfl, rfl⟩
  case round =>
    obtain ⟨rfl, k, hk, rfl, rfl⟩ := hrel
    by_cases hlt : k < n
    · obtain ⟨b, off, rfl, hcell⟩ := HB.out.at (by omega)
      have hkx : k < xs.length := by omega
      have h1 := hcell k hkx
      have HT := Lib.hid (show ube (xs.take (k + 1)) = ube (xs.take k) * 256 + xs[k].toNat by rw [List.take_succ_eq_append_getElem hkx, ube_snoc])
      have hu := ube_lt (xs.take k)
      rw [List.length_take, Nat.min_eq_left (by omega)] at hu
      have hu2 : ube (xs.take k) < 72057594037927936 := Nat.lt_of_lt_of_le hu (Nat.pow_le_pow_right (n := 256) (i := k) (j := 7) (by decide) (by omega))
      clear hu
      generalize ube (xs.take k) = X at *
      generalize xs[k] = y at *
      clear hcell HB
      go_wp2
      go_roundg (gk - 1)
      case measure => omega
      case rel =>
        refine ⟨rfl, k + 1, by omega, ?_, by go_num⟩
        rw [acc64 X y hu2, HT.out]
    · go_wp2
      go_ret
      refine ⟨?_, HR.out⟩
      rw [List.take_of_length_le (by omega), HXS.out]
      rfl

theorem ru32_short (p : Nat) (D : Option Nat) (bs : List UInt8) (w : World) (h : RdrAt w p D bs) (hn : bs.length < 4) :
    Calls Try.prog 28 #[.pointer (some ⟨p, 0, none⟩)] w fun e w' => e = .panicked (thrown 4) ∧ w = w' := by
  have H := Lib.hid h
  clear h
  go_enter Try.func28, Try.ntmps28
  go_wp2_with (go_at_call 33; (with_reducible refine (rnum_short p D bs 4 4 rfl _ H.out hn (by omega) (by omega)).mono ?_); rintro e w1 ⟨rfl, rfl⟩)
  exact ⟨rfl, rfl, rfl⟩
theorem ru32_any (p : Nat) (D : Option Nat) (bs : List UInt8) (w : World) (h : RdrAt w p D bs) (hn : 4 ≤ bs.length) (hb : bs.length ≤ 140737488351232) :
    Calls Try.prog 28 #[.pointer (some ⟨p, 0, none⟩)] w fun e w' => e = .returned (.int .u32 (ube (bs.take 4) : Int)) ∧ RdrAt w' p D (bs.drop 4) ∧ Chg (· = p) w w' := by
  have H := Lib.hid h
  clear h
  have hu := ube_lt (bs.take 4)
  rw [List.length_take, Nat.min_eq_left hn] at hu
  go_enter Try.func28, Try.ntmps28
  go_wp2_with (go_at_call 33; (with_reducible refine (rnum_any p D bs 4 4 rfl _ H.out hn (by omega) hb).mono ?_); rintro e w1 ⟨rfl, hr, hg⟩; have HR := Lib.hid (And.intro hr hg); clear hr hg)
  go_ret
  exact ⟨by first | rfl | (congr 2; rw [IntKind.wrap_u32]; omega), HR.out⟩
/-! What catches: the deferred function of a read. -/
theorem not_nil (W : World) (u : TypeId) (v : Value) : (binOp .eql 20 (.iface u v) .nilIface).run Try.prog W = .ok (.bool false) W := by kernel_rfl
theorem as_thrown (W : World) (v : Value) : (Instr.typeAssert (.iface 78 v) 20 78 true).run Try.prog W = .ok (.tuple #[v, .bool true]) W := by kernel_rfl
theorem as_int (W : World) (v : Value) : (Instr.typeAssert (.iface 3 v) 20 78 true).run Try.prog W = .ok (.tuple #[.agg #[.int .i64 0], .bool false]) W := by kernel_rfl
theorem bts_lt {w : World} {ao : Option Addr} {bs : List UInt8} (h : Bts w ao bs) (hz : bs ≠ []) : ∀ a, ao = some a → a.block < w.heap.size := by
  have hl : 0 < bs.length := by cases bs with
    | nil => exact absurd rfl hz
    | cons => simp
  obtain ⟨b, off, rfl, hc⟩ := h.at hl
  have h0 := hc 0 hl
  rintro a ⟨⟩
  cases hb : w.heap[b]? with
  | none => simp [World.cell?, hb] at h0
  | some o => exact heap_lt hb
/-- Where a read stands ahead of its closure: its result's cell, and the reader. -/
abbrev readWorld (w : World) (v : Value) : World := (w.alloc (.cells #[.int .i64 0] 25)).alloc (.cells #[v] 66)
theorem readWorld_below (w : World) (v : Value) : Below w.heap.size w (readWorld w v) := ((Below.refl _ w).alloc (Nat.le_refl _) _).alloc (by rw [size_alloc]; omega) _
theorem readWorld_cell (w : World) (v : Value) : (readWorld w v).heap[w.heap.size]? = some (.cells #[.int .i64 0] 25 (0, 0)) := heap_new (heap_top _ _)
theorem readWorld_size (w : World) (v : Value) : (readWorld w v).heap.size = w.heap.size + 2 := by rw [size_alloc, size_alloc]
theorem readWorld_rdr (w : World) {ao : Option Addr} {n c : Nat} {bs : List UInt8} (hb : Bts w ao bs) (hl : bs.length = n) (hnc : n ≤ c) (hm : c ≤ maxLen) : RdrAt (readWorld w (.slice ao n c)) (w.heap.size + 1) (ao.map (·.block)) bs := by
  refine ⟨ao, c, ?_, hb.below (readWorld_below w _), by omega, hm, ?_⟩
  · have := heap_top (w.alloc (.cells #[.int .i64 0] 25)) (.cells #[.slice ao n c] 66)
    rw [size_alloc] at this
    rw [hl]
    exact this
  · intro hz a ha
    subst ha
    exact ⟨rfl, by have := bts_lt hb hz a rfl; omega⟩
/-- What a read's closure has to be. -/
structure ReadBy (f : Nat) (caps : Array Value) (w : World) (D : Option Nat) (bs : List UInt8) (S : Nat → Prop) (G : World → Prop) (en : Ending → World → Prop) : Prop where
  fn : ∀ args w, (callFunc f args).run Try.prog w = .ok (.enter f args) w
  old : ∀ k, S k → k < w.heap.size
  by' : ∀ w1, Below w.heap.size w w1 → RdrAt w1 (w.heap.size + 1) D bs → Calls Try.prog f (#[.pointer (some ⟨w.heap.size + 1, 0, none⟩)] ++ caps) w1 fun e w2 => en e w2 ∧ Chg (fun k => S k ∨ k = w.heap.size + 1) w1 w2 ∧ G w2
  keep : ∀ w2 w3, Chg (· = w.heap.size) w2 w3 → w.heap.size < w2.heap.size → G w2 → G w3
end Go.Proofs.Ytggidllaodloiaa
