/-
  WORDS OF THIS SEAT's WALKS: rows of memory that read as lists; bytes; numbers of 32 bits as 'BitVec 32'. Over whatever program.
-/
import Derived.WalkKit
import Derived.Lib.Hide
namespace Go.Proofs.YtibigfglhpdjmaaDoor
open Go Go.RowKit

/-- A slice's address 'ao' leads to cells that read 'cs', one behind the other (of an empty list nothing is said). -/
def Row (w : World) (ao : Option Addr) (cs : List Value) : Prop :=
  cs ≠ [] → ∃ b off, ao = some ⟨b, off, none⟩ ∧ ∀ i v, cs[i]? = some v → w.cell? ⟨b, off + i, none⟩ = some v
/-- Bytes as cells. -/
def cb (c : UInt8) : Value := .int .u8 (c.toNat : Int)
def Bts (w : World) (ao : Option Addr) (bs : List UInt8) : Prop := Row w ao (bs.map cb)

theorem Bts.at {w : World} {ao : Option Addr} {bs : List UInt8} (h : Bts w ao bs) (h0 : 0 < bs.length) :
    ∃ b off, ao = some ⟨b, off, none⟩ ∧ ∀ i (hi : i < bs.length), w.cell? ⟨b, off + i, none⟩ = some (.int .u8 (bs[i].toNat : Int)) := by
  obtain ⟨b, off, e, hc⟩ := h (by intro e; have := congrArg List.length e; simp at this; simp [this] at h0)
  exact ⟨b, off, e, fun i hi => hc i _ (by simp [hi, cb])⟩
theorem Bts.nil (w : World) (ao : Option Addr) : Bts w ao [] := fun h => absurd rfl h

theorem Row.take {w : World} {ao : Option Addr} {cs : List Value} (h : Row w ao cs) (n : Nat) : Row w ao (cs.take n) := by
  intro hne
  obtain ⟨b, off, e, hc⟩ := h (by rintro rfl; simp at hne)
  refine ⟨b, off, e, fun i v hv => hc i v ?_⟩
  rw [List.getElem?_take] at hv
  split at hv
  · exact hv
  · cases hv
theorem Bts.take {w : World} {ao : Option Addr} {bs : List UInt8} (h : Bts w ao bs) (n : Nat) : Bts w ao (bs.take n) := by
  unfold Bts; rw [List.map_take]; exact Row.take h n
theorem Row.drop {w : World} {b off : Nat} {cs : List Value} (h : Row w (some ⟨b, off, none⟩) cs) (k : Nat) : Row w (some ⟨b, off + k, none⟩) (cs.drop k) := by
  intro hne
  obtain ⟨b', off', e, hc⟩ := h (by rintro rfl; simp at hne)
  cases e
  refine ⟨b, off + k, rfl, fun i v hv => ?_⟩
  rw [List.getElem?_drop] at hv
  rw [Nat.add_assoc]; exact hc _ v hv
theorem Bts.drop {w : World} {b off : Nat} {bs : List UInt8} (h : Bts w (some ⟨b, off, none⟩) bs) (k : Nat) : Bts w (some ⟨b, off + k, none⟩) (bs.drop k) := by
  unfold Bts; rw [List.map_drop]; exact Row.drop h k
theorem block_add (a : Addr) (n : Nat) : (a.add n).block = a.block := by unfold Addr.add; split <;> rfl
theorem Bts.drop' {w : World} {ao : Option Addr} {bs : List UInt8} (h : Bts w ao bs) (n : Nat) : Bts w (ao.map (fun x => x.add n)) (bs.drop n) := by
  cases ao with
  | none =>
    intro hne
    obtain ⟨_, _, e, _⟩ := h (by rintro e; rw [List.map_drop, e] at hne; simp at hne)
    cases e
  | some a =>
    intro hne
    obtain ⟨b, off, e, _⟩ := h (by rintro e; rw [List.map_drop, e] at hne; simp at hne)
    cases e
    have := h.drop n hne
    have e2 : (⟨b, off, none⟩ : Addr).add n = ⟨b, off + n, none⟩ := by unfold Addr.add; split <;> simp_all
    rw [Option.map_some, e2]; exact this
/-- A new block reads as what was laid into it. -/
theorem Row.alloc (w : World) (cs : Array Value) (t : TypeId) (fz : Nat × Nat) : Row (w.alloc (.cells cs t fz)) (some ⟨w.heap.size, 0, none⟩) cs.toList := by
  intro _
  refine ⟨_, _, rfl, fun i v hv => ?_⟩
  have h : (w.alloc (.cells cs t fz)).heap[w.heap.size]? = some (.cells cs t fz) := heap_alloc_new w _
  simp only [World.cell?, h, Nat.zero_add]
  simpa using hv
theorem Bts.alloc (w : World) (cs : Array Value) (t : TypeId) (fz : Nat × Nat) (bs : List UInt8) (h : cs.toList = bs.map cb) : Bts (w.alloc (.cells cs t fz)) (some ⟨w.heap.size, 0, none⟩) bs := by
  unfold Bts; rw [← h]; exact Row.alloc w cs t fz

/-- What was there reads as before, where nothing that was there has turned. -/
theorem Row.below {w w' : World} {ao : Option Addr} {cs : List Value} (h : Row w ao cs) (hb : Below w.heap.size w w') : Row w' ao cs := by
  intro hne
  obtain ⟨b, off, e, hc⟩ := h hne
  refine ⟨b, off, e, fun i v hv => ?_⟩
  have h1 := hc i v hv
  rw [hb.cell (p := ⟨b, off + i, none⟩) (World.block_lt_of_cell? w _ h1)]
  exact h1
theorem Bts.below {w w' : World} {ao : Option Addr} {bs : List UInt8} (h : Bts w ao bs) (hb : Below w.heap.size w w') : Bts w' ao bs := Row.below h hb

/-! ### bits -/
theorem ofInt_toNat {n : Nat} (x : BitVec n) : BitVec.ofInt n (x.toNat : Int) = x := by
  rw [BitVec.ofInt_natCast, BitVec.ofNat_toNat, BitVec.setWidth_eq]
theorem wrap_bv32 (x : BitVec 32) : IntKind.u32.wrap (x.toNat : Int) = (x.toNat : Int) := by
  rw [IntKind.wrap_u32]; have := x.isLt; omega
theorem xor32 (x y : BitVec 32) : bits .xor .u32 (x.toNat : Int) (y.toNat : Int) = ((x ^^^ y).toNat : Int) := by
  show IntKind.u32.wrap (((BitVec.ofInt 32 (x.toNat : Int)) ^^^ (BitVec.ofInt 32 (y.toNat : Int))).toNat : Int) = _
  rw [ofInt_toNat, ofInt_toNat, wrap_bv32]
theorem and32 (x y : BitVec 32) : bits .and .u32 (x.toNat : Int) (y.toNat : Int) = ((x &&& y).toNat : Int) := by
  show IntKind.u32.wrap (((BitVec.ofInt 32 (x.toNat : Int)) &&& (BitVec.ofInt 32 (y.toNat : Int))).toNat : Int) = _
  rw [ofInt_toNat, ofInt_toNat, wrap_bv32]
theorem half32 (x : BitVec 32) : (x.toNat : Int) / (2 : Int) = ((x >>> 1).toNat : Int) := by
  rw [BitVec.toNat_ushiftRight, Nat.shiftRight_eq_div_pow]; omega
theorem xor8 (x y : UInt8) : bits .xor .u8 (x.toNat : Int) (y.toNat : Int) = ((x ^^^ y).toNat : Int) := by
  show IntKind.u8.wrap (((BitVec.ofInt 8 (x.toNat : Int)) ^^^ (BitVec.ofInt 8 (y.toNat : Int))).toNat : Int) = _
  have h1 : BitVec.ofInt 8 (x.toNat : Int) = x.toBitVec := ofInt_toNat x.toBitVec
  have h2 : BitVec.ofInt 8 (y.toNat : Int) = y.toBitVec := ofInt_toNat y.toBitVec
  rw [h1, h2, ← UInt8.toBitVec_xor, IntKind.wrap_u8]
  have := (x ^^^ y).toNat_lt
  show (((x ^^^ y).toNat : Int)) % 256 = _
  omega
theorem int32_inj {x y : BitVec 32} : ((x.toNat : Int) == (y.toNat : Int)) = (x == y) := by
  rw [Bool.eq_iff_iff]; simp only [beq_iff_eq]
  exact ⟨fun h => BitVec.eq_of_toNat_eq (by omega), fun h => by rw [h]⟩
end Go.Proofs.YtibigfglhpdjmaaDoor
