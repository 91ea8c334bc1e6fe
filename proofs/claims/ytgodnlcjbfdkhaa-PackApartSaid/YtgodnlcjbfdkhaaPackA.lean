/-
  THE LAW PackApart OF LAYER 2, WALKED.
-/
import Derived.Test.YtgodnlcjbfdkhaaPackM
import Derived.Test.YtgodnlcjbfdkhaaOpen
import Derived.WalkLawsBesides
import Derived.Deep.RegionHeld3
import Derived.Laws.StructEq
import Derived.ChangeKeysEq
namespace Go.Proofs.Ytgodnlcjbfdkhaa
open Go Go.RowKit

/-- Two texts, one behind the other. -/
def two (s0 s1 : ByteArray) : List UInt8 := be 4 s0.size ++ s0.data.toList ++ be 4 s1.size ++ s1.data.toList
theorem ba_len (s : ByteArray) : s.data.toList.length = s.size := Array.length_toList ..
theorem be_len (k n : Nat) : (be k n).length = k := by simp [be]
theorem apart1 (s0 s1 : ByteArray) (w : World) (h0 : s0.size ≤ 500) (h1 : s1.size ≤ 500) :
    Calls Try.prog 12 #[.agg #[.string s0, .string s1]] w fun e w' => e = .returned (.string (strOf (two s0 s1))) ∧ Below w.heap.size w w' := by
  have hn := WrMine.new (Below.refl (w.alloc (.cells #[.string s0, .string s1] 29)).heap.size (w.alloc (.cells #[.string s0, .string s1] 29)))
  rw [size_alloc] at hn
  have HX := Lib.hid (size_alloc w (.cells #[.string s0, .string s1] 29))
  have h500 : s0.size ≤ 4294967295 := by omega
  have h501 : s1.size ≤ 4294967295 := by omega
  have e0 : [] ++ be 4 s0.size ++ s0.data.toList = be 4 s0.size ++ s0.data.toList := by simp
  have hl1 : (be 4 s0.size ++ s0.data.toList).length ≤ 4398046511104 := by rw [List.length_append, be_len, ba_len]; omega
  have hl2 : (two s0 s1).length = s0.size + s1.size + 8 := by simp only [two, List.length_append, be_len, ba_len]; omega
  have hl3 : (two s0 s1).length ≤ 70368744177664 := by omega
  have e1 : be 4 s0.size ++ s0.data.toList ++ be 4 s1.size ++ s1.data.toList = two s0 s1 := rfl
  have hc0 : (w.alloc (.cells #[.string s0, .string s1] 29)).heap[w.heap.size]? = some (.cells #[.string s0, .string s1] 29 (0, 0)) := heap_top _ _
  have HN := Lib.hid (And.intro hn hc0)
  have HE := Lib.hid (And.intro e0 (And.intro e1 hl2))
  generalize two s0 s1 = L at *
  clear hn hc0 e0 e1 hl2
  go_enter Try.func12, Try.ntmps12
  go_wp2_with (first
    | (go_at_call 13; (with_reducible refine (text_mine HN.out.1 s0 h500 (by decide)).mono ?_); rintro e w1 ⟨rfl, hm⟩; rw [HE.out.1] at hm; have hcl := (Chg.of_below hm.below (fun _ => False)).heap HN.out.2 (fun h => h); have hc1 := heap_cell hcl 1; simp at hc1; have H1 := Lib.hid hm; clear hm hcl)
    | (go_at_call 13; (with_reducible refine (text_mine H1.out s1 h501 hl1).mono ?_); rintro e w2 ⟨rfl, hm⟩; rw [HE.out.2.1] at hm; have H2 := Lib.hid hm; clear hm)
    | (go_at_call 14; (with_reducible refine (done_mine H2.out hl3).mono ?_); rintro e w3 ⟨bo, cap, rfl, hm, ho, _⟩; have ks := conv_bytes w3 Try.underlying22 Try.underlying5 Try.underlying9 bo _ cap _ rfl ho.bts; have H3 := Lib.hid hm; clear hm ho))
  go_ret
  exact ⟨rfl, ((Below.refl _ w).alloc (Nat.le_refl _) _).trans (H3.out.below.mono (by rw [HX.out]; omega))⟩
theorem in_two (W : World) (base : Nat) (v : Value) (k : Value.okWide Try.prog W .any base 29 v) (r : Rd Try.prog W 29 v.cells.toList) : ∃ s0 s1 : ByteArray, v = .agg #[.string s0, .string s1] ∧ s0.size ≤ maxLen ∧ s1.size ≤ maxLen := by
  have hu := Try.underlying29
  simp only [Value.okWide, hu] at k
  obtain ⟨cs, rfl, hz, -⟩ := k
  have h2 : Try.prog.cellsOf 29 = 2 := by kernel_rfl
  have h1 : Try.prog.cellsOf 9 = 1 := by kernel_rfl
  obtain ⟨hl, he⟩ := r.array hu
  have r0 := he 0 (by decide)
  have r1 := he 1 (by decide)
  rw [h1] at r0 r1
  obtain ⟨s0, e0, m0⟩ := r0.string Try.underlying9
  obtain ⟨s1, e1, m1⟩ := r1.string Try.underlying9
  refine ⟨s0, s1, ?_, m0, m1⟩
  rw [h2] at hz
  obtain ⟨l⟩ := cs
  simp [Value.cells] at e0 e1 hz
  obtain ⟨a, b, rfl⟩ := list2 hz
  simp at e0 e1
  rw [e0, e1]
theorem be4_inj {n m : Nat} (hn : n < 4294967296) (hm : m < 4294967296) (h : be 4 n = be 4 m) : n = m := by
  have g : ∀ j, j < 4 → UInt8.ofNat (n / 256 ^ (3 - j)) = UInt8.ofNat (m / 256 ^ (3 - j)) := by
    intro j hj
    have := be_get 4 n j hj
    rw [h, be_get 4 m j hj] at this
    exact (Option.some.inj this).symm
  have g' : ∀ j, j < 4 → n / 256 ^ (3 - j) % 256 = m / 256 ^ (3 - j) % 256 := by
    intro j hj
    have := congrArg UInt8.toNat (g j hj)
    simpa using this
  have g0 := g' 0 (by decide)
  have g1 := g' 1 (by decide)
  have g2 := g' 2 (by decide)
  have g3 := g' 3 (by decide)
  simp at g0 g1 g2 g3
  omega
theorem ba_ext {a b : ByteArray} (h : a.data.toList = b.data.toList) : a = b := by
  obtain ⟨⟨x⟩⟩ := a
  obtain ⟨⟨y⟩⟩ := b
  simp at h
  rw [h]
theorem two_inj (a0 a1 b0 b1 : ByteArray) (h0 : a0.size ≤ 500) (_h1 : a1.size ≤ 500) (h2 : b0.size ≤ 500) (_h3 : b1.size ≤ 500) (h : two a0 a1 = two b0 b1) : a0 = b0 ∧ a1 = b1 := by
  unfold two at h
  simp only [List.append_assoc] at h
  obtain ⟨e1, h⟩ := List.append_inj h (by rw [be_len, be_len])
  have s1 := be4_inj (by omega) (by omega) e1
  obtain ⟨e2, h⟩ := List.append_inj h (by rw [ba_len, ba_len, s1])
  obtain ⟨e3, e4⟩ := List.append_inj h (by rw [be_len, be_len])
  exact ⟨ba_ext e2, ba_ext e4⟩
theorem eq_two (w : World) (a0 a1 b0 b1 : ByteArray) : (binOp .eql 29 (.agg #[.string a0, .string a1]) (.agg #[.string b0, .string b1])).run Try.prog w = .ok (.bool (a0.toList == b0.toList && a1.toList == b1.toList)) w := by
  have hi : Try.prog.info? 9 = some (Try.prog.types[9]'(by decide +kernel)) := by kernel_rfl
  have h1 : Try.prog.cellsOf 9 = 1 := by kernel_rfl
  rw [run_eql_struct, run_equalIn_array w 9999 _ _ Try.underlying29 hi, h1]
  simp [List.range, List.range.loop, Op.eqItems, go_sem, run_equalIn_string, Try.underlying9]
  by_cases e0 : a0.toList = b0.toList <;> by_cases e1 : a1.toList = b1.toList <;> simp [e0, e1]
/-- The law's two pairs of texts, in their boxes. -/
structure Four (a0 a1 b0 b1 : ByteArray) (B : Nat) (w : World) : Prop where
  A : w.heap[B]? = some (.cells #[.string a0, .string a1] 29 (0, 0))
  Bb : w.heap[B + 1]? = some (.cells #[.string b0, .string b1] 29 (0, 0))
theorem Four.keep {a0 a1 b0 b1 : ByteArray} {B : Nat} {w w' : World} (h : Four a0 a1 b0 b1 B w) (hb : Below w.heap.size w w') : Four a0 a1 b0 b1 B w' :=
  ⟨(Chg.of_below hb (fun _ => False)).heap h.A (fun h => h), (Chg.of_below hb (fun _ => False)).heap h.Bb (fun h => h)⟩
theorem Four.drew {a0 a1 b0 b1 : ByteArray} {B : Nat} {w : World} (h : Four a0 a1 b0 b1 B w) : Four a0 a1 b0 b1 B w.drew := ⟨h.A, h.Bb⟩
theorem Four.cells {a0 a1 b0 b1 : ByteArray} {B : Nat} {w : World} (h : Four a0 a1 b0 b1 B w) :
    w.cell? ⟨B, 0, none⟩ = some (.string a0) ∧ w.cell? ⟨B, 1, none⟩ = some (.string a1) ∧ w.cell? ⟨B + 1, 0, none⟩ = some (.string b0) ∧ w.cell? ⟨B + 1, 1, none⟩ = some (.string b1) :=
  ⟨heap_cell h.A 0, heap_cell h.A 1, heap_cell h.Bb 0, heap_cell h.Bb 1⟩
theorem Four.all {a0 a1 b0 b1 : ByteArray} {B : Nat} {w : World} (h : Four a0 a1 b0 b1 B w) : Four a0 a1 b0 b1 B w ∧
    w.cell? ⟨B, 0, none⟩ = some (.string a0) ∧ w.cell? ⟨B, 1, none⟩ = some (.string a1) ∧ w.cell? ⟨B + 1, 0, none⟩ = some (.string b0) ∧ w.cell? ⟨B + 1, 1, none⟩ = some (.string b1) := ⟨h, h.cells⟩
theorem Four.again {a0 a1 b0 b1 : ByteArray} {B : Nat} {w w' : World} (hb : Below w.heap.size w w') (h : Four a0 a1 b0 b1 B w ∧
    w.cell? ⟨B, 0, none⟩ = some (.string a0) ∧ w.cell? ⟨B, 1, none⟩ = some (.string a1) ∧ w.cell? ⟨B + 1, 0, none⟩ = some (.string b0) ∧ w.cell? ⟨B + 1, 1, none⟩ = some (.string b1)) : Four a0 a1 b0 b1 B w' ∧
    w'.cell? ⟨B, 0, none⟩ = some (.string a0) ∧ w'.cell? ⟨B, 1, none⟩ = some (.string a1) ∧ w'.cell? ⟨B + 1, 0, none⟩ = some (.string b0) ∧ w'.cell? ⟨B + 1, 1, none⟩ = some (.string b1) := (h.1.keep hb).all
theorem below_two {B : Nat} {w w1 w2 w3 : World} (h3 : Below w2.heap.size w2 w3) (h2 : Below w1.heap.size w1 w2) (h1 : Below B w w1) (hB : B ≤ w.heap.size) : Below B w w3 := by
  have := h1.size
  have := h2.size
  exact (h1.trans (h2.mono (by omega))).trans (h3.mono (by omega))
set_option maxHeartbeats 1000000 in
theorem packApart_any (a0 a1 b0 b1 : ByteArray) (w : World) (m0 : a0.size ≤ maxLen) (m1 : a1.size ≤ maxLen) (m2 : b0.size ≤ maxLen) (m3 : b1.size ≤ maxLen) :
    Calls Try.prog 4 #[.agg #[.string a0, .string a1], .agg #[.string b0, .string b1]] w fun e w' => e = .returned (.bool true) ∧ Below w.heap.size w w' := by
  unfold maxLen at m0 m1 m2 m3
  have h0 : (w.alloc (.cells #[.string a0, .string a1] 29)).heap[w.heap.size]? = some (.cells #[.string a0, .string a1] 29 (0, 0)) := heap_top _ _
  have hb0 := ((Below.refl w.heap.size w).alloc (Nat.le_refl _) (.cells #[.string a0, .string a1] 29)).alloc (by rw [size_alloc]; omega) (.cells #[.string b0, .string b1] 29)
  have hA := heap_new (o := .cells #[.string b0, .string b1] 29) h0
  have hB := heap_top (w.alloc (.cells #[.string a0, .string a1] 29)) (.cells #[.string b0, .string b1] 29)
  rw [size_alloc] at hB
  have HH := Lib.hid (And.intro (Four.mk hA hB) hb0)
  clear hA hB h0 hb0
  by_cases h : a0.size ≤ 500 ∧ a1.size ≤ 500 ∧ b0.size ≤ 500 ∧ b1.size ≤ 500
  · obtain ⟨g0, g1, g2, g3⟩ := h
    obtain ⟨Q, hq, hQ⟩ : ∃ Q : Bool, (∀ w, (binOp .eql 29 (.agg #[.string a0, .string a1]) (.agg #[.string b0, .string b1])).run Try.prog w = .ok (.bool Q) w) ∧ Q = (a0.toList == b0.toList && a1.toList == b1.toList) := ⟨_, fun w => eq_two w a0 a1 b0 b1, rfl⟩
    have HRQ := Lib.hid (show ((strOf (two a0 a1)).toList == (strOf (two b0 b1)).toList) = Q by
      rw [hQ, strOf_toList, strOf_toList, ba_toList, ba_toList, ba_toList, ba_toList]
      rw [Bool.eq_iff_iff, beq_iff_eq, Bool.and_eq_true, beq_iff_eq, beq_iff_eq]
      constructor
      · intro h
        obtain ⟨rfl, rfl⟩ := two_inj _ _ _ _ g0 g1 g2 g3 h
        exact ⟨rfl, rfl⟩
      · rintro ⟨h, h'⟩
        rw [ba_ext h, ba_ext h'])
    clear hQ
    have hA1 := fun w => apart1 a0 a1 w g0 g1
    have hB1 := fun w => apart1 b0 b1 w g2 g3
    generalize strOf (two a0 a1) = SA at *
    generalize strOf (two b0 b1) = SB at *
    have HA1 := Lib.hid hA1
    have HB1 := Lib.hid hB1
    clear hA1 hB1
    go_enter Try.func4, Try.ntmps4
    go_wp2_with (go_at_call 10; (with_reducible refine (awake _).mono ?_); rintro e w1 ⟨rfl, hw⟩; obtain ⟨hc0, hc1, hc2, hc3⟩ := (HH.out.1.keep hw).cells; have HF := Lib.hid (HH.out.1.keep hw); have HW := Lib.hid hw; clear hw)
    clear hc0 hc1 hc2 hc3
    have hd0 := HF.out.drew.all
    go_region_held3 (fun w' => Four a0 a1 b0 b1 w.heap.size w' ∧ w'.cell? ⟨w.heap.size, 0, none⟩ = some (.string a0) ∧ w'.cell? ⟨w.heap.size, 1, none⟩ = some (.string a1) ∧ w'.cell? ⟨w.heap.size + 1, 0, none⟩ = some (.string b0) ∧ w'.cell? ⟨w.heap.size + 1, 1, none⟩ = some (.string b1))
      (first | assumption | exact Four.again (by assumption) (by assumption))
      (first
        | (go_at_call 12; (with_reducible refine (HA1.out _).mono ?_); rintro e w2 ⟨rfl, hw⟩)
        | (go_at_call 12; (with_reducible refine (HB1.out _).mono ?_); rintro e w2 ⟨rfl, hw⟩))
    all_goals go_wp2
    all_goals (go_ret; exact ⟨by rw [← HRQ.out]; simp, below_two (by assumption) (by assumption) ((HH.out.2.trans (HW.out.mono HH.out.2.size)).drew) (Nat.le_refl _)⟩)
  · go_enter Try.func4, Try.ntmps4
    go_wp2_with (go_at_call 10; (with_reducible refine (awake _).mono ?_); rintro e w1 ⟨rfl, hw⟩; obtain ⟨hc0, hc1, hc2, hc3⟩ := (HH.out.1.keep hw).cells; have HW := Lib.hid hw; clear hw)
    all_goals (go_ret; exact ⟨rfl, HH.out.2.trans (HW.out.mono HH.out.2.size)⟩)
theorem packApart_in (W : World) (base : Nat) (v0 v1 : Value) (k0 : Value.okWide Try.prog W .any base 29 v0) (k1 : Value.okWide Try.prog W .any base 29 v1)
    (r0 : Rd Try.prog W 29 v0.cells.toList) (r1 : Rd Try.prog W 29 v1.cells.toList) :
    Calls Try.prog 4 #[v0, v1] W fun e w' => e = .returned (.bool true) ∧ Below W.heap.size W w' := by
  obtain ⟨a0, a1, rfl, m0, m1⟩ := in_two W base v0 k0 r0
  obtain ⟨b0, b1, rfl, m2, m3⟩ := in_two W base v1 k1 r1
  exact packApart_any a0 a1 b0 b1 W m0 m1 m2 m3
end Go.Proofs.Ytgodnlcjbfdkhaa
