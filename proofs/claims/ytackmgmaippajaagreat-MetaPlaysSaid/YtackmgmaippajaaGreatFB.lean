/-
  JOINED BY fam.py out of: Kit, Mem, Open, Base, Str, Flat, Last.
-/
import Derived.WalkKit
import Derived.Lib.Hide
import Derived.ArgAppend
import Derived.Deep.Quiet
import Derived.ProofKit
import Derived.Test.YtackmgmaippajaaGreatProg
import Derived.Deep.LoopGhost
import Derived.Deep.QuietTactic
import Derived.BigQuiet
import Derived.WalkLawsBesides
import Derived.WalkSpells
import Derived.Deep.DeepCutAuto
import Derived.Lib.SliceRun
import Derived.Lib.SlBytesConst
import Derived.Tactics
import Derived.Tactics2
import Derived.Deep.RegionHeld3
-- part Kit
namespace Go.Proofs.YtackmgmaippajaaGreat
set_option maxRecDepth 100000
open Go Go.RowKit

/-- A slice's address 'ao' leads to cells that read 'cs', one behind the other (of an empty list nothing is said). -/
def Row (w : World) (ao : Option Addr) (cs : List Value) : Prop :=
  cs ≠ [] → ∃ b off, ao = some ⟨b, off, none⟩ ∧ ∀ i v, cs[i]? = some v → w.cell? ⟨b, off + i, none⟩ = some v
/-- Bytes as cells. -/
def cb (c : UInt8) : Value := .int .u8 (c.toNat : Int)
def Bts (w : World) (ao : Option Addr) (bs : List UInt8) : Prop := Row w ao (bs.map cb)

theorem Bts.at {w : World} {ao : Option Addr} {bs : List UInt8} (h : Bts w ao bs) (h0 : 0 < bs.length) :
    ∃ b off, ao = some ⟨b, off, none⟩ ∧ ∀ i (hi : i < bs.length), w.cell? ⟨b, off + i, none⟩ = some (.int .u8 (bs[i].toNat : Int)) := by
  obtain ⟨b, off, e, hc⟩ := h (by intro e; have := congrArg List.length e; simp at this; simp [this] at h0)
  exact ⟨b, off, e, fun i hi => hc i _ (by simp [hi, cb])⟩
theorem Bts.nil (w : World) (ao : Option Addr) : Bts w ao [] := fun h => absurd rfl h

theorem Row.take {w : World} {ao : Option Addr} {cs : List Value} (h : Row w ao cs) (n : Nat) : Row w ao (cs.take n) := by
  intro hne
  obtain ⟨b, off, e, hc⟩ := h (by rintro rfl; simp at hne)
  refine ⟨b, off, e, fun i v hv => hc i v ?_⟩
  rw [List.getElem?_take] at hv
  split at hv
  · exact hv
  · cases hv
theorem Bts.take {w : World} {ao : Option Addr} {bs : List UInt8} (h : Bts w ao bs) (n : Nat) : Bts w ao (bs.take n) := by
  unfold Bts; rw [List.map_take]; exact Row.take h n
theorem Row.drop {w : World} {b off : Nat} {cs : List Value} (h : Row w (some ⟨b, off, none⟩) cs) (k : Nat) : Row w (some ⟨b, off + k, none⟩) (cs.drop k) := by
  intro hne
  obtain ⟨b', off', e, hc⟩ := h (by rintro rfl; simp at hne)
  cases e
  refine ⟨b, off + k, rfl, fun i v hv => ?_⟩
  rw [List.getElem?_drop] at hv
  rw [Nat.add_assoc]; exact hc _ v hv
theorem Bts.drop {w : World} {b off : Nat} {bs : List UInt8} (h : Bts w (some ⟨b, off, none⟩) bs) (k : Nat) : Bts w (some ⟨b, off + k, none⟩) (bs.drop k) := by
  unfold Bts; rw [List.map_drop]; exact Row.drop h k
theorem block_add (a : Addr) (n : Nat) : (a.add n).block = a.block := by unfold Addr.add; split <;> rfl
theorem Bts.drop' {w : World} {ao : Option Addr} {bs : List UInt8} (h : Bts w ao bs) (n : Nat) : Bts w (ao.map (fun x => x.add n)) (bs.drop n) := by
  cases ao with
  | none =>
    intro hne
    obtain ⟨_, _, e, _⟩ := h (by rintro e; rw [List.map_drop, e] at hne; simp at hne)
    cases e
  | some a =>
    intro hne
    obtain ⟨b, off, e, _⟩ := h (by rintro e; rw [List.map_drop, e] at hne; simp at hne)
    cases e
    have := h.drop n hne
    have e2 : (⟨b, off, none⟩ : Addr).add n = ⟨b, off + n, none⟩ := by unfold Addr.add; split <;> simp_all
    rw [Option.map_some, e2]; exact this
/-- A new block reads as what was laid into it. -/
theorem Row.alloc (w : World) (cs : Array Value) (t : TypeId) (fz : Nat × Nat) : Row (w.alloc (.cells cs t fz)) (some ⟨w.heap.size, 0, none⟩) cs.toList := by
  intro _
  refine ⟨_, _, rfl, fun i v hv => ?_⟩
  have h : (w.alloc (.cells cs t fz)).heap[w.heap.size]? = some (.cells cs t fz) := heap_alloc_new w _
  simp only [World.cell?, h, Nat.zero_add]
  simpa using hv
theorem Bts.alloc (w : World) (cs : Array Value) (t : TypeId) (fz : Nat × Nat) (bs : List UInt8) (h : cs.toList = bs.map cb) : Bts (w.alloc (.cells cs t fz)) (some ⟨w.heap.size, 0, none⟩) bs := by
  unfold Bts; rw [← h]; exact Row.alloc w cs t fz

/-- What was there reads as before, where nothing that was there has turned. -/
theorem Row.below {w w' : World} {ao : Option Addr} {cs : List Value} (h : Row w ao cs) (hb : Below w.heap.size w w') : Row w' ao cs := by
  intro hne
  obtain ⟨b, off, e, hc⟩ := h hne
  refine ⟨b, off, e, fun i v hv => ?_⟩
  have h1 := hc i v hv
  rw [hb.cell (p := ⟨b, off + i, none⟩) (World.block_lt_of_cell? w _ h1)]
  exact h1
theorem Bts.below {w w' : World} {ao : Option Addr} {bs : List UInt8} (h : Bts w ao bs) (hb : Below w.heap.size w w') : Bts w' ao bs := Row.below h hb

/-! ### bits -/
theorem ofInt_toNat {n : Nat} (x : BitVec n) : BitVec.ofInt n (x.toNat : Int) = x := by
  rw [BitVec.ofInt_natCast, BitVec.ofNat_toNat, BitVec.setWidth_eq]
theorem wrap_bv32 (x : BitVec 32) : IntKind.u32.wrap (x.toNat : Int) = (x.toNat : Int) := by
  rw [IntKind.wrap_u32]; have := x.isLt; omega
theorem xor32 (x y : BitVec 32) : bits .xor .u32 (x.toNat : Int) (y.toNat : Int) = ((x ^^^ y).toNat : Int) := by
  show IntKind.u32.wrap (((BitVec.ofInt 32 (x.toNat : Int)) ^^^ (BitVec.ofInt 32 (y.toNat : Int))).toNat : Int) = _
  rw [ofInt_toNat, ofInt_toNat, wrap_bv32]
theorem and32 (x y : BitVec 32) : bits .and .u32 (x.toNat : Int) (y.toNat : Int) = ((x &&& y).toNat : Int) := by
  show IntKind.u32.wrap (((BitVec.ofInt 32 (x.toNat : Int)) &&& (BitVec.ofInt 32 (y.toNat : Int))).toNat : Int) = _
  rw [ofInt_toNat, ofInt_toNat, wrap_bv32]
theorem half32 (x : BitVec 32) : (x.toNat : Int) / (2 : Int) = ((x >>> 1).toNat : Int) := by
  rw [BitVec.toNat_ushiftRight, Nat.shiftRight_eq_div_pow]; omega
theorem xor8 (x y : UInt8) : bits .xor .u8 (x.toNat : Int) (y.toNat : Int) = ((x ^^^ y).toNat : Int) := by
  show IntKind.u8.wrap (((BitVec.ofInt 8 (x.toNat : Int)) ^^^ (BitVec.ofInt 8 (y.toNat : Int))).toNat : Int) = _
  have h1 : BitVec.ofInt 8 (x.toNat : Int) = x.toBitVec := ofInt_toNat x.toBitVec
  have h2 : BitVec.ofInt 8 (y.toNat : Int) = y.toBitVec := ofInt_toNat y.toBitVec
  rw [h1, h2, ← UInt8.toBitVec_xor, IntKind.wrap_u8]
  have := (x ^^^ y).toNat_lt
  show (((x ^^^ y).toNat : Int)) % 256 = _
  omega
theorem int32_inj {x y : BitVec 32} : ((x.toNat : Int) == (y.toNat : Int)) = (x == y) := by
  rw [Bool.eq_iff_iff]; simp only [beq_iff_eq]
  exact ⟨fun h => BitVec.eq_of_toNat_eq (by omega), fun h => by rw [h]⟩
end Go.Proofs.YtackmgmaippajaaGreat
-- part Mem
namespace Go.Proofs.YtackmgmaippajaaGreat
set_option maxRecDepth 100000
open Go Go.RowKit

/-! ### what has turned -/
/-- Of the blocks that were there none has turned but those in S. -/
structure Chg (S : Nat → Prop) (w w' : World) : Prop where
  os : w'.os = w.os
  tape : w'.tape = w.tape
  output : w'.output = w.output
  size : w.heap.size ≤ w'.heap.size
  block : ∀ k, k < w.heap.size → ¬ S k → w'.heap[k]? = w.heap[k]?
theorem Chg.refl (S : Nat → Prop) (w : World) : Chg S w w := ⟨rfl, rfl, rfl, Nat.le_refl _, fun _ _ _ => rfl⟩
theorem Chg.mono {S S' : Nat → Prop} {w w' : World} (h : Chg S w w') (hs : ∀ k, k < w.heap.size → S k → S' k) : Chg S' w w' :=
  ⟨h.os, h.tape, h.output, h.size, fun k hk hn => h.block k hk fun hS => hn (hs k hk hS)⟩
theorem Chg.trans {S : Nat → Prop} {a b c : World} (h : Chg S a b) {S' : Nat → Prop} (k : Chg S' b c) (hs : ∀ i, i < a.heap.size → S' i → S i) : Chg S a c :=
  ⟨k.os.trans h.os, k.tape.trans h.tape, k.output.trans h.output, Nat.le_trans h.size k.size,
    fun i hi hn => (k.block i (Nat.lt_of_lt_of_le hi h.size) fun hS => hn (hs i hi hS)).trans (h.block i hi hn)⟩
theorem Chg.drew {S : Nat → Prop} {a w : World} (h : Chg S a w) : Chg S a w.drew := ⟨h.os, h.tape, h.output, h.size, h.block⟩
theorem Chg.drewN {S : Nat → Prop} {a w : World} (h : Chg S a w) (n : Nat) : Chg S a (w.drewN n) := ⟨h.os, h.tape, h.output, h.size, h.block⟩
theorem Chg.alloc {S : Nat → Prop} {a w : World} (h : Chg S a w) (o : Obj) : Chg S a (w.alloc o) :=
  h.trans (S' := fun _ => False) ⟨rfl, rfl, rfl, by simp, fun k hk _ => Below.heap_alloc _ _ _ hk⟩ fun _ _ h => h.elim
theorem Chg.setCell {S : Nat → Prop} {a w : World} (h : Chg S a w) {p : Addr} (hp : p.block < a.heap.size → S p.block) (u : Value) : Chg S a (w.setCell p u) :=
  h.trans (S' := fun k => k = p.block) ⟨rfl, rfl, rfl, by simp [World.setCell], fun k _ hk => Below.heap_setCell _ _ _ _ hk⟩ fun i hi e => by subst e; exact hp hi
theorem Chg.set {S : Nat → Prop} {a w : World} (h : Chg S a w) {p : Nat} (hp : S p) (i : Nat) (u : Value) : Chg S a (w.setCell ⟨p, i, none⟩ u) := h.setCell (fun _ => hp) u
theorem Chg.one (w : World) (p i : Nat) (u : Value) : Chg (· = p) w (w.setCell ⟨p, i, none⟩ u) := (Chg.refl (· = p) w).set (p := p) rfl i u
theorem Chg.to {S S' : Nat → Prop} {w w' : World} (h : Chg S w w') (hs : ∀ k, S k → S' k) : Chg S' w w' := h.mono fun k _ => hs k
theorem Chg.undrewN {S : Nat → Prop} {w w' : World} {n : Nat} (h : Chg S (w.drewN n) w') : Chg S w w' := ⟨h.os, h.tape, h.output, h.size, h.block⟩
theorem Chg.undrew {S : Nat → Prop} {w w' : World} (h : Chg S w.drew w') : Chg S w w' := ⟨h.os, h.tape, h.output, h.size, h.block⟩
theorem Chg.of_below {w w' : World} (h : Below w.heap.size w w') (S : Nat → Prop) : Chg S w w' := ⟨h.os, h.tape, h.output, h.size, fun k hk _ => h.block k hk⟩
theorem Chg.below {S : Nat → Prop} {w w' : World} (h : Chg S w w') {B : Nat} (hB : B ≤ w.heap.size) (hs : ∀ k, S k → B ≤ k) : Below B w w' :=
  ⟨h.os, h.tape, h.output, h.size, fun k hk => h.block k (by omega) fun hS => by have := hs k hS; omega⟩
theorem Chg.cell {S : Nat → Prop} {w w' : World} (h : Chg S w w') {p : Addr} {v : Value} (hv : w.cell? p = some v) (hS : ¬ S p.block) : w'.cell? p = some v :=
  (World.cell?_of_block (h.block p.block (World.block_lt_of_cell? w p hv) hS)).trans hv
theorem Chg.heap {S : Nat → Prop} {w w' : World} (h : Chg S w w') {k : Nat} {o : Obj} (hv : w.heap[k]? = some o) (hS : ¬ S k) : w'.heap[k]? = some o :=
  (h.block k (Array.getElem?_eq_some_iff.1 hv).1 hS).trans hv
theorem Chg.row {S : Nat → Prop} {w w' : World} (h : Chg S w w') {ao : Option Addr} {cs : List Value} (hr : Row w ao cs) (hS : ∀ a, ao = some a → ¬ S a.block) : Row w' ao cs := by
  intro hne
  obtain ⟨b, off, e, hc⟩ := hr hne
  exact ⟨b, off, e, fun i v hv => h.cell (hc i v hv) (show ¬ S b from hS _ e)⟩

theorem below_drewN {B : Nat} {a w : World} (h : Below B a w) (n : Nat) : Below B a (w.drewN n) := ⟨h.os, h.tape, h.output, h.size, h.block⟩
theorem Row.drewN {w : World} {ao : Option Addr} {cs : List Value} (h : Row w ao cs) (m : Nat) : Row (w.drewN m) ao cs := h
theorem Bts.drewN {w : World} {ao : Option Addr} {bs : List UInt8} (h : Bts w ao bs) (m : Nat) : Bts (w.drewN m) ao bs := h
theorem Row.drew {w : World} {ao : Option Addr} {cs : List Value} (h : Row w ao cs) : Row w.drew ao cs := h
theorem Bts.drew {w : World} {ao : Option Addr} {bs : List UInt8} (h : Bts w ao bs) : Bts w.drew ao bs := h
/-! ### a block that is known whole -/
theorem heap_cell {w : World} {p : Nat} {cs : Array Value} {t : TypeId} {fz : Nat × Nat} (h : w.heap[p]? = some (.cells cs t fz)) (i : Nat) : w.cell? ⟨p, i, none⟩ = cs[i]? := by simp [World.cell?, h]
theorem heap_frozen {w : World} {p : Nat} {cs : Array Value} {t : TypeId} (h : w.heap[p]? = some (.cells cs t (0, 0))) (i : Nat) : w.frozen? ⟨p, i, none⟩ = false := by simp [World.frozen?, h]
theorem heap_set {w : World} {p : Nat} {cs : Array Value} {t : TypeId} {fz : Nat × Nat} (h : w.heap[p]? = some (.cells cs t fz)) (i : Nat) (v : Value) : (w.setCell ⟨p, i, none⟩ v).heap[p]? = some (.cells (cs.setIfInBounds i v) t fz) := by
  simp [World.setCell, Array.getElem?_modify, h]
theorem heap_lt {w : World} {p : Nat} {o : Obj} (h : w.heap[p]? = some o) : p < w.heap.size := (Array.getElem?_eq_some_iff.1 h).1
theorem heap_far {w : World} {a : Addr} {k : Nat} {o : Obj} (h : w.heap[k]? = some o) (hk : k ≠ a.block) (u : Value) : (w.setCell a u).heap[k]? = some o := (Below.heap_setCell w a u k hk).trans h
theorem heap_new {w : World} {o : Obj} {k : Nat} {q : Obj} (h : w.heap[k]? = some q) : (w.alloc o).heap[k]? = some q := (Below.heap_alloc w o k (heap_lt h)).trans h
/-! ### a slice that is owned -/
/-- The slice of address ao, length n, capacity cap holds the cells cs, and its cells up to its capacity may be written. -/
structure Own (w : World) (size : Nat) (ao : Option Addr) (n cap : Nat) (cs : List Value) : Prop where
  len : cs.length = n * size
  le : n ≤ cap
  max : cap ≤ maxLen
  nil : ao = none → cap = 0
  at_ : ∀ a, ao = some a → a.spot = none ∧ a.block < w.heap.size ∧
    (∀ j, j < cap * size → (w.cell? ⟨a.block, a.off + j, none⟩).isSome = true ∧ w.frozen? ⟨a.block, a.off + j, none⟩ = false) ∧
    ∀ i v, cs[i]? = some v → w.cell? ⟨a.block, a.off + i, none⟩ = some v
theorem Own.nil' (w : World) (size : Nat) : Own w size none 0 0 [] := ⟨by simp, Nat.le_refl _, by simp, fun _ => rfl, fun a h => by cases h⟩
theorem Own.row {w : World} {size : Nat} {ao : Option Addr} {n cap : Nat} {cs : List Value} (h : Own w size ao n cap cs) : Row w ao cs := by
  intro hne
  cases ao with
  | none =>
    have h1 := h.nil rfl; have h2 := h.le; have h3 := h.len
    obtain rfl : n = 0 := by omega
    exact absurd (List.eq_nil_of_length_eq_zero (by simpa using h3)) hne
  | some a =>
    obtain ⟨h1, _, _, h3⟩ := h.at_ a rfl
    obtain ⟨b, off, s⟩ := a
    subst h1
    exact ⟨b, off, rfl, h3⟩
theorem Own.keep {w w' : World} {size : Nat} {ao : Option Addr} {n cap : Nat} {cs : List Value} (h : Own w size ao n cap cs) {S : Nat → Prop} (hc : Chg S w w') (hS : ∀ a, ao = some a → ¬ S a.block) :
    Own w' size ao n cap cs := by
  refine ⟨h.len, h.le, h.max, h.nil, fun a ha => ?_⟩
  obtain ⟨h1, h2, h3, h4⟩ := h.at_ a ha
  have hb := hc.block a.block h2 (hS a ha)
  refine ⟨h1, Nat.lt_of_lt_of_le h2 hc.size, fun j hj => ?_, fun i v hv => ?_⟩
  · rw [World.cell?_of_block (w := w) (w' := w') (a := ⟨a.block, a.off + j, none⟩) hb, World.frozen?_of_block (w := w) (w' := w') (a := ⟨a.block, a.off + j, none⟩) hb]; exact h3 j hj
  · rw [World.cell?_of_block (w := w) (w' := w') (a := ⟨a.block, a.off + i, none⟩) hb]; exact h4 i v hv
/-- A new block, whole. -/
theorem Own.alloc (w : World) (size n cap : Nat) (xs : Array Value) (t : TypeId) (cs : List Value) (hl : cs.length = n * size) (hn : n ≤ cap) (hm : cap ≤ maxLen) (hs : cap * size ≤ xs.size) (hc : xs.toList.take (n * size) = cs) :
    Own (w.alloc (.cells xs t)) size (some ⟨w.heap.size, 0, none⟩) n cap cs := by
  have hb : (w.alloc (.cells xs t)).heap[w.heap.size]? = some (.cells xs t (0, 0)) := heap_alloc_new w _
  refine ⟨hl, hn, hm, by simp, ?_⟩
  rintro a ⟨⟩
  refine ⟨rfl, by simp, fun j hj => ?_, fun i v hv => ?_⟩
  · simp only [World.cell?, World.frozen?, hb, Nat.zero_add]
    exact ⟨by simp; omega, by simp⟩
  · simp only [World.cell?, hb, Nat.zero_add]
    rw [← hc, List.getElem?_take] at hv
    split at hv
    · simpa using hv
    · cases hv

theorem Own.drew {w : World} {size : Nat} {ao : Option Addr} {n cap : Nat} {cs : List Value} (h : Own w size ao n cap cs) : Own w.drew size ao n cap cs := ⟨h.len, h.le, h.max, h.nil, h.at_⟩
theorem Own.drewN {w : World} {size : Nat} {ao : Option Addr} {n cap : Nat} {cs : List Value} (h : Own w size ao n cap cs) (m : Nat) : Own (w.drewN m) size ao n cap cs := ⟨h.len, h.le, h.max, h.nil, h.at_⟩
theorem Own.alloc0 (w : World) (size : Nat) (t : TypeId) (fz : Nat × Nat) : Own (w.alloc (.cells #[] t fz)) size (some ⟨w.heap.size, 0, none⟩) 0 0 [] := by
  refine ⟨by simp, Nat.le_refl _, by simp, by simp, ?_⟩
  rintro a ⟨⟩
  exact ⟨rfl, by simp, fun j hj => by simp at hj, fun i v hv => by simp at hv⟩
theorem Own.bts {w : World} {ao : Option Addr} {n cap : Nat} {bs : List UInt8} (h : Own w 1 ao n cap (bs.map cb)) : Bts w ao bs := h.row
theorem one_cb (bs : List UInt8) : ∀ u ∈ bs.map cb, u.oneCell' = true := by
  intro u hu
  obtain ⟨b, _, rfl⟩ := List.mem_map.1 hu
  rfl

/-- A beginning of a slice that is owned, its capacity cut. -/
theorem Own.cut {w : World} {size n cap m c : Nat} {ao : Option Addr} {cs : List Value} (h : Own w size ao n cap cs) (hm : m ≤ c) (hn : m ≤ n) (hc : c ≤ cap) : Own w size ao m c (cs.take (m * size)) := by
  have hmul : m * size ≤ n * size := Nat.mul_le_mul_right _ hn
  have hmulc : c * size ≤ cap * size := Nat.mul_le_mul_right _ hc
  have := h.max
  refine ⟨by rw [List.length_take, h.len]; omega, hm, by omega, fun e => by have := h.nil e; omega, fun a ha => ?_⟩
  obtain ⟨h1, h2, h3, h4⟩ := h.at_ a ha
  refine ⟨h1, h2, fun j hj => h3 j (by omega), fun i v hv => h4 i v ?_⟩
  rw [List.getElem?_take] at hv
  split at hv
  · exact hv
  · cases hv
/-- What an element of a slice type is, in the program's table. -/
structure ElemOf (P : Program) (t e : TypeId) (z : Value) (size bytes : Nat) : Prop where
  under : P.underlying t = some (.slice e)
  info : ∃ i, P.info? e = some i ∧ i.zero = some z ∧ i.size = size ∧ i.bytes = bytes
  zsize : z.cells.size = size
  pos : 0 < size
theorem ElemOf.mk' {P : Program} {t e : TypeId} {z : Value} {size bytes : Nat} (h1 : P.underlying t = some (.slice e)) (h2 : (P.info? e).map (fun i => (i.zero, i.size, i.bytes)) = some (some z, size, bytes)) (h3 : z.cells.size = size) (h4 : 0 < size) :
    ElemOf P t e z size bytes := by
  refine ⟨h1, ?_, h3, h4⟩
  cases hi : P.info? e with
  | none => rw [hi] at h2; simp at h2
  | some i => rw [hi] at h2; simp at h2; exact ⟨i, rfl, h2.1, h2.2.1, h2.2.2⟩

theorem add_plain (b off i : Nat) : (⟨b, off, none⟩ : Addr).add i = ⟨b, off + i, none⟩ := by unfold Addr.add; split <;> simp_all

section
variable {P : Program} {w : World} {t e : TypeId} {z : Value} {size bytes : Nat}
/-- append, onto a slice that is owned, of any slice (nil too). -/
theorem run_append2 (ty : TypeId) (hE : ElemOf P t e z size bytes) {ao bo : Option Addr} {n cap m c : Nat} {cs news : List Value} (hown : Own w size ao n cap cs)
    (hl : news.length = m * size) (hnews : Row w bo news) (h1 : ∀ u ∈ news, u.oneCell' = true) (h63 : n + m ≤ maxLen) (hbytes : (n + m) * bytes ≤ 140737488355328) :
    ∃ ao' cap' w', (Builtin.append_ #[t, t] ty #[.slice ao n cap, .slice bo m c]).run P w = .ok (.slice ao' (n + m) cap') w' ∧ Own w' size ao' (n + m) cap' (cs ++ news) ∧
      Chg (fun k => ∃ a, ao = some a ∧ a.block = k) w w' ∧ (ao' = none → ao = none ∧ m = 0) ∧ (∀ a', ao' = some a' → ao = some a' ∨ w.heap.size ≤ a'.block) ∧ (n + m ≤ cap → ao' = ao ∧ cap' = cap) := by
  obtain ⟨i, hi, hz, hsize, hby⟩ := hE.info
  have hsz := hE.pos
  have hzs := hE.zsize
  have hu := hE.under
  subst hsize; subst hby
  have hlen : (cs ++ news).length = (n + m) * i.size := by rw [List.length_append, hown.len, hl, Nat.add_mul]
  -- the source, as an address where there is something in it
  have hsrc : ∀ a, bo = some a → ∀ j u, news[j]? = some u → w.cell? (a.add j) = some u := by
    rintro a rfl j u hu
    obtain ⟨b, off, e1, hc⟩ := hnews (by intro e; subst e; simp at hu)
    cases e1
    rw [add_plain]; exact hc j u hu
  have hm0 : bo = none → m = 0 := by
    rintro rfl
    by_cases hne : news = []
    · subst hne
      rcases Nat.eq_zero_or_pos m with h | h
      · exact h
      · have := Nat.mul_pos h hsz; simp at hl; omega
    · obtain ⟨_, _, e1, _⟩ := hnews hne; cases e1
  by_cases hroom : n + m ≤ cap
  · cases ao with
    | none =>
      have hc0 := hown.nil rfl
      obtain rfl : m = 0 := by omega
      obtain rfl : n = 0 := by omega
      obtain rfl : cap = 0 := hc0
      have hn0 : news = [] := List.eq_nil_of_length_eq_zero (by simpa using hl)
      have hc0' : cs = [] := List.eq_nil_of_length_eq_zero (by simpa using hown.len)
      subst hn0; subst hc0'
      refine ⟨none, 0, w, ?_, Own.nil' w _, Chg.refl _ _, by simp, by simp, by simp⟩
      cases bo with
      | none => simp [Builtin.append_, run_underlying hu, sizeOf, typeInfo, hi, Builtin.lenOf, Builtin.firstCells]
      | some a => simp [Builtin.append_, run_underlying hu, sizeOf, typeInfo, hi, Builtin.lenOf, Builtin.firstCells, loadCells, loadCellsFrom]
    | some a =>
      obtain ⟨b, off, s⟩ := a
      obtain ⟨e0, hlt, hcap, hcs⟩ := hown.at_ _ rfl
      simp only at e0 hlt hcap hcs
      subst e0
      have hmul : (n + m) * i.size ≤ cap * i.size := Nat.mul_le_mul_right _ hroom
      have hadd : (n + m) * i.size = n * i.size + m * i.size := Nat.add_mul _ _ _
      have hcell : ∀ j, j < news.length → (w.cell? ⟨b, off + n * i.size + j, none⟩).isSome = true := fun j hj => by
        have := (hcap (n * i.size + j) (by omega)).1; rwa [← Nat.add_assoc] at this
      have hfroz : ∀ j, j < news.length → w.frozen? ⟨b, off + n * i.size + j, none⟩ = false := fun j hj => by
        have := (hcap (n * i.size + j) (by omega)).2; rwa [← Nat.add_assoc] at this
      have hst := run_storeCells_cells (P := P) b (off + n * i.size) news 0 w (by simpa using hcell) (by simpa using hfroz) h1
      simp only [Nat.add_zero] at hst
      have hrun : (Builtin.append_ #[t, t] ty #[.slice (some ⟨b, off, none⟩) n cap, .slice bo m c]).run P w = .ok (.slice (some ⟨b, off, none⟩) (n + m) cap) (w.setCells b (off + n * i.size) news) := by
        cases bo with
        | none =>
          obtain rfl := hm0 rfl
          have hn0 : news = [] := List.eq_nil_of_length_eq_zero (by simpa using hl)
          subst hn0
          simp [Builtin.append_, run_underlying hu, sizeOf, typeInfo, hi, Builtin.lenOf, Builtin.firstCells, hown.le, World.setCells, storeCells]
        | some a => exact run_append_room_cells (P := P) w t ty e i hu hi b off n cap a m c news hl (hsrc a rfl) h1 hroom hcell hfroz
      have hblk : ∀ k, k ≠ b → (w.setCells b (off + n * i.size) news).heap[k]? = w.heap[k]? := by
        intro k hk
        clear hst hrun hcell hfroz hnews hl h1 hlen hsrc
        generalize off + n * i.size = o
        clear hm0 hcap hcs hown hroom hmul
        induction news generalizing w o with
        | nil => rfl
        | cons u us ih =>
          simp only [World.setCells]
          rw [ih (w := w.setCell ⟨b, o, none⟩ u) (by simpa [World.setCell] using hlt)]
          exact Below.heap_setCell _ _ _ _ hk
      have hsz' : (w.setCells b (off + n * i.size) news).heap.size = w.heap.size ∧ (w.setCells b (off + n * i.size) news).os = w.os ∧ (w.setCells b (off + n * i.size) news).tape = w.tape ∧ (w.setCells b (off + n * i.size) news).output = w.output := by
        clear hst hrun hcell hfroz hnews hl h1 hlen hsrc
        generalize off + n * i.size = o
        clear hm0 hcap hcs hown hroom hmul hblk
        induction news generalizing w o with
        | nil => exact ⟨rfl, rfl, rfl, rfl⟩
        | cons u us ih =>
          simp only [World.setCells]
          obtain ⟨h1, h2, h3, h4⟩ := ih (w := w.setCell ⟨b, o, none⟩ u) (by simpa [World.setCell] using hlt) (o + 1)
          exact ⟨h1.trans (by simp [World.setCell]), h2, h3, h4⟩
      refine ⟨some ⟨b, off, none⟩, cap, _, hrun, ⟨hlen, hroom, hown.max, by simp, ?_⟩, ⟨hsz'.2.1, hsz'.2.2.1, hsz'.2.2.2, by rw [hsz'.1]; exact Nat.le_refl _, fun k _ hk => hblk k fun e => hk ⟨_, rfl, e.symm⟩⟩, by simp, by simp, by simp⟩
      rintro a' ⟨⟩
      refine ⟨rfl, by rw [hsz'.1]; exact hlt, fun j hj => ⟨?_, ?_⟩, fun k v hv => ?_⟩
      · by_cases hin : n * i.size ≤ j ∧ j < n * i.size + news.length
        · have := World.cell?_setCells_in b news (off + n * i.size) w hcell (j - n * i.size) (by omega)
          rw [show off + n * i.size + (j - n * i.size) = off + j by omega] at this
          simp only [this, Option.isSome_some]
        · rw [World.cell?_setCells_out b news (off + n * i.size) w ⟨b, off + j, none⟩ (fun _ _ => by simp only; omega)]
          exact (hcap j hj).1
      · rw [World.frozen?_setCells]; exact (hcap j hj).2
      · by_cases hk : k < cs.length
        · rw [List.getElem?_append_left hk] at hv
          rw [World.cell?_setCells_out b news (off + n * i.size) w ⟨b, off + k, none⟩ (fun _ _ => by simp only; rw [hown.len] at hk; omega)]
          exact hcs k v hv
        · rw [List.getElem?_append_right (by omega)] at hv
          have hkl : k - cs.length < news.length := by
            rcases Nat.lt_or_ge (k - cs.length) news.length with h | h
            · exact h
            · rw [List.getElem?_eq_none h] at hv; cases hv
          have := World.cell?_setCells_in b news (off + n * i.size) w hcell (k - cs.length) hkl
          rw [show off + n * i.size + (k - cs.length) = off + k by rw [hown.len] at hk ⊢; omega] at this
          rw [List.getElem?_eq_getElem hkl] at hv
          cases hv
          exact this
  · -- it grows
    have hmp : 0 < m := by have := hown.le; omega
    cases bo with
    | none => exact absurd (hm0 rfl) (by omega)
    | some a =>
      have hge := grownCap_ge w (n + m) cap e
      have hcm := grownCap_le_maxLen w (n + m) cap e h63
      have hsmall : ((n + m : Nat) : Int) ≤ 9223372036854775807 := by simp only [maxLen] at h63; omega
      have hnew : ∀ old, Own (w.drew.alloc (.cells (cs.toArray ++ news.toArray ++ Builtin.zeroCells z.cells (grownCap w (n + m) old e - (n + m))) e)) i.size (some ⟨w.heap.size, 0, none⟩) (n + m) (grownCap w (n + m) old e) (cs ++ news) := by
        intro old
        have hge := grownCap_ge w (n + m) old e
        have hcm := grownCap_le_maxLen w (n + m) old e h63
        refine Own.alloc w.drew i.size (n + m) _ _ e _ hlen hge hcm ?_ ?_
        · simp only [Array.size_append, List.size_toArray, size_zeroCells, hzs, hown.len, hl, ← Nat.add_mul]
          rw [show n + m + (grownCap w (n + m) old e - (n + m)) = grownCap w (n + m) old e by omega]
          exact Nat.le_refl _
        · simp only [Array.toList_append]
          rw [← hlen]
          exact List.take_left
      cases ao with
      | none =>
        have hc0 := hown.nil rfl
        obtain rfl : n = 0 := by have := hown.le; omega
        subst hc0
        have hc0' : cs = [] := List.eq_nil_of_length_eq_zero (by simpa using hown.len)
        subst hc0'
        have hr := run_append_nil (P := P) w t ty e i z hu hi hz a m c news hl (hsrc a rfl) (by omega) (by simpa using hsmall) (by have hb := hbytes; simp only [Nat.zero_add] at hb; omega)
        have h2 := hnew 0
        simp only [Nat.zero_add, List.nil_append, Array.empty_append] at h2 ⊢
        exact ⟨_, _, _, hr, h2, (Chg.refl _ _).drew.alloc _, by simp, by rintro a' ⟨⟩; exact .inr (Nat.le_refl _), fun h => absurd h (by omega)⟩
      | some b =>
        have holds : ∀ j u, cs[j]? = some u → w.cell? (b.add j) = some u := by
          obtain ⟨b, off, s⟩ := b
          obtain ⟨e0, _, _, hcs⟩ := hown.at_ _ rfl
          simp only at e0 hcs
          subst e0
          intro j u hj; rw [add_plain]; exact hcs j u hj
        have hr := run_append_grow (P := P) w t ty e i z hu hi hz b n cap cs hown.len holds a m c news hl (hsrc a rfl) (by omega) hsmall (growslice_fits (by omega) hbytes)
        exact ⟨_, _, _, hr, hnew cap, (Chg.refl _ _).drew.alloc _, by simp, by rintro a' ⟨⟩; exact .inr (Nat.le_refl _), fun h => absurd h (by omega)⟩
/-- The same, of any room. -/
theorem run_append' (ty : TypeId) (hE : ElemOf P t e z size bytes) {ao bo : Option Addr} {n cap m c : Nat} {cs news : List Value} (hown : Own w size ao n cap cs)
    (hl : news.length = m * size) (hnews : Row w bo news) (h1 : ∀ u ∈ news, u.oneCell' = true) (h63 : n + m ≤ maxLen) (hbytes : (n + m) * bytes ≤ 140737488355328) :
    ∃ ao' cap' w', (Builtin.append_ #[t, t] ty #[.slice ao n cap, .slice bo m c]).run P w = .ok (.slice ao' (n + m) cap') w' ∧ Own w' size ao' (n + m) cap' (cs ++ news) ∧
      Chg (fun k => ∃ a, ao = some a ∧ a.block = k) w w' ∧ (ao' = none → ao = none ∧ m = 0) ∧ (∀ a', ao' = some a' → ao = some a' ∨ w.heap.size ≤ a'.block) := by
  obtain ⟨ao', cap', w', h1, h2, h3, h4, h5, _⟩ := run_append2 ty hE (c := c) hown hl hnews h1 h63 hbytes
  exact ⟨ao', cap', w', h1, h2, h3, h4, h5⟩
/-- Where there is room: in place. -/
theorem run_append_in (ty : TypeId) (hE : ElemOf P t e z size bytes) {ao bo : Option Addr} {n cap m c : Nat} {cs news : List Value} (hown : Own w size ao n cap cs)
    (hl : news.length = m * size) (hnews : Row w bo news) (h1 : ∀ u ∈ news, u.oneCell' = true) (hroom : n + m ≤ cap) (hbytes : (n + m) * bytes ≤ 140737488355328) :
    ∃ w', (Builtin.append_ #[t, t] ty #[.slice ao n cap, .slice bo m c]).run P w = .ok (.slice ao (n + m) cap) w' ∧ Own w' size ao (n + m) cap (cs ++ news) ∧
      Chg (fun k => ∃ a, ao = some a ∧ a.block = k) w w' := by
  obtain ⟨ao', cap', w', h1, h2, h3, h4, h5, h6⟩ := run_append2 ty hE (c := c) hown hl hnews h1 (Nat.le_trans hroom hown.max) hbytes
  obtain ⟨rfl, rfl⟩ := h6 hroom
  exact ⟨w', h1, h2, h3⟩
/-- The same, for the walk. -/
theorem wp_append' {o : Oper} {a : Act} {K : Act → World → Prop} {Q : Exit → Act → World → Prop} (s x : Operand) (hE : ElemOf P t e z size bytes)
    (ho : o.op = .call { callee := .builtin .append, args := #[s, x], argTypes := #[t, t] }) {ao bo : Option Addr} {n cap m c : Nat} {cs news : List Value}
    (hs : a.eval s = .slice ao n cap) (hx : a.eval x = .slice bo m c) (hown : Own w size ao n cap cs)
    (hl : news.length = m * size) (hnews : Row w bo news) (h1 : ∀ u ∈ news, u.oneCell' = true) (h63 : n + m ≤ maxLen) (hbytes : (n + m) * bytes ≤ 140737488355328)
    (h : ∀ ao' cap' w', Own w' size ao' (n + m) cap' (cs ++ news) → Chg (fun k => ∃ a, ao = some a ∧ a.block = k) w w' → (ao' = none → ao = none ∧ m = 0) → (∀ a', ao' = some a' → ao = some a' ∨ w.heap.size ≤ a'.block) →
      K (a.put o.dst (.slice ao' (n + m) cap')) w') : o.wp P a w K Q := by
  obtain ⟨ao', cap', w', hr, h2, h3, h4, h5⟩ := run_append' (w := w) o.type hE (c := c) hown hl hnews h1 h63 hbytes
  unfold Oper.wp execOp
  simp only [ho, resolve, invoke, builtin, Sem.run_bind, Sem.run_pure, Result.andThen_ok, List.map_toArray, List.map_cons, List.map_nil, hs, hx, hr]
  exact h ao' cap' w' h2 h3 h4 h5
theorem wpList_append' {ops : Array Oper} {rest : List Oper} {o : Oper} {a : Act} {Q : Exit → Act → World → Prop} (hgd : o.guard = none) (s x : Operand) (hE : ElemOf P t e z size bytes)
    (ho : o.op = .call { callee := .builtin .append, args := #[s, x], argTypes := #[t, t] }) {ao bo : Option Addr} {n cap m c : Nat} {cs news : List Value}
    (hs : a.eval s = .slice ao n cap) (hx : a.eval x = .slice bo m c) (hown : Own w size ao n cap cs)
    (hl : news.length = m * size) (hnews : Row w bo news) (h1 : ∀ u ∈ news, u.oneCell' = true) (h63 : n + m ≤ maxLen) (hbytes : (n + m) * bytes ≤ 140737488355328)
    (h : ∀ ao' cap' w', Own w' size ao' (n + m) cap' (cs ++ news) → Chg (fun k => ∃ a, ao = some a ∧ a.block = k) w w' → (ao' = none → ao = none ∧ m = 0) → (∀ a', ao' = some a' → ao = some a' ∨ w.heap.size ≤ a'.block) →
      wpList P ops Q rest (a.put o.dst (.slice ao' (n + m) cap')) w') : wpList P ops Q (o :: rest) a w :=
  wpList_plain hgd fun _ hK => wp_append' s x hE ho hs hx hown hl hnews h1 h63 hbytes fun ao' cap' w' h2 h3 h4 h5 => hK _ _ (h ao' cap' w' h2 h3 h4 h5)
end
/-- make. -/
theorem wpList_make' {P : Program} {w : World} {t e : TypeId} {z : Value} {size bytes : Nat} {ops : Array Oper} {rest : List Oper} {o : Oper} {a : Act} {Q : Exit → Act → World → Prop} (hgd : o.guard = none) (l c : Operand)
    (hE : ElemOf P t e z size bytes) (ho : o.op = .makeSlice t l c) {kl kc : IntKind} {L C : Int} {n m : Nat} (hl : a.eval l = .int kl L) (hc : a.eval c = .int kc C) (hL : L = (n : Int)) (hC : C = (m : Int)) (hnm : n ≤ m) (hb : bytes * m ≤ 281474976710656) (h63 : m ≤ maxLen)
    (h : Own (w.alloc (.cells (madeCells z.cells (m * size)) e)) size (some ⟨w.heap.size, 0, none⟩) n m ((madeCells z.cells (m * size)).toList.take (n * size)) →
      wpList P ops Q rest (a.put o.dst (.slice (some ⟨w.heap.size, 0, none⟩) n m)) (w.alloc (.cells (madeCells z.cells (m * size)) e))) : wpList P ops Q (o :: rest) a w := by
  obtain ⟨i, hi, hz, hsize, hby⟩ := hE.info
  have hu := hE.under
  have hzs := hE.zsize
  subst hsize; subst hby; subst hL; subst hC
  refine wpList_plain hgd fun K hK => ?_
  have hr := run_make (P := P) w t e i z hu hi hz kl kc (n : Int) (m : Int) (by omega) (by omega) (by have := hb; omega) (by simp only [maxLen] at h63; omega)
  simp only [Int.toNat_natCast] at hr
  have hmul : n * i.size ≤ m * i.size := Nat.mul_le_mul_right _ hnm
  have h' := h (Own.alloc w i.size n m _ e _ (by simp only [List.length_take, Array.length_toList, size_madeCells]; omega) hnm h63 (by rw [size_madeCells]; exact Nat.le_refl _) rfl)
  unfold Oper.wp
  simp [execOp, ho, hl, hc, hr, Result.andThen]
  exact hK _ _ h'
/-- A store into a slice that is owned. -/
theorem Own.set {w : World} {size n cap : Nat} {b off : Nat} {cs : List Value} (h : Own w size (some ⟨b, off, none⟩) n cap cs) (k : Nat) (v : Value) (hk : k < n * size) :
    Own (w.setCell ⟨b, off + k, none⟩ v) size (some ⟨b, off, none⟩) n cap (cs.set k v) := by
  refine ⟨by rw [List.length_set]; exact h.len, h.le, h.max, by simp, ?_⟩
  obtain ⟨_, h2, h3, h4⟩ := h.at_ _ rfl
  have hle : n * size ≤ cap * size := Nat.mul_le_mul_right _ h.le
  have hsome := (h3 k (by omega)).1
  simp only at h2 h3 h4 hsome
  rintro a ⟨⟩
  refine ⟨rfl, by simpa [World.setCell] using h2, fun j hj => ⟨?_, ?_⟩, fun i u hu => ?_⟩
  · by_cases e : j = k
    · subst e
      obtain ⟨x, hx⟩ := Option.isSome_iff_exists.1 hsome
      rw [World.cell?_setCell_same _ _ _ hx]; rfl
    · rw [World.cell?_setCell_other (h := by intro q; simp at q; omega)]; exact (h3 j hj).1
  · rw [World.frozen?_setCell]; exact (h3 j hj).2
  · obtain ⟨x, hx⟩ := Option.isSome_iff_exists.1 hsome
    by_cases e : i = k
    · subst e
      rw [List.getElem?_set_self (by rw [h.len]; exact hk)] at hu
      cases hu
      exact World.cell?_setCell_same _ _ _ hx
    · rw [List.getElem?_set_ne (fun q => e q.symm)] at hu
      rw [World.cell?_setCell_other (h := by intro q; simp at q; omega)]; exact h4 i u hu
theorem Own.cellAt {w : World} {size n cap : Nat} {b off : Nat} {cs : List Value} (h : Own w size (some ⟨b, off, none⟩) n cap cs) {k : Nat} {v : Value} (hv : cs[k]? = some v) :
    w.cell? ⟨b, off + k, none⟩ = some v ∧ w.frozen? ⟨b, off + k, none⟩ = false := by
  obtain ⟨_, h2, h3, h4⟩ := h.at_ _ rfl
  have hk : k < cs.length := by
    rcases Nat.lt_or_ge k cs.length with h | h
    · exact h
    · rw [List.getElem?_eq_none h] at hv; cases hv
  have hle : n * size ≤ cap * size := Nat.mul_le_mul_right _ h.le
  have := h.len
  exact ⟨h4 k v hv, (h3 k (by omega)).2⟩
theorem step_append' {P : Program} {w : World} {t e : TypeId} {z : Value} {size bytes : Nat} {ops : Array Oper} {o : Oper} {a : Act} {K : Act → World → Prop} {Q : Exit → Act → World → Prop} {E : Prop} (hgd : o.guard = none) (s x : Operand) (hE : ElemOf P t e z size bytes)
    (ho : o.op = .call { callee := .builtin .append, args := #[s, x], argTypes := #[t, t] }) {ao bo : Option Addr} {n cap m c : Nat} {cs news : List Value}
    (hs : a.eval s = .slice ao n cap) (hx : a.eval x = .slice bo m c) (hown : Own w size ao n cap cs)
    (hl : news.length = m * size) (hnews : Row w bo news) (h1 : ∀ u ∈ news, u.oneCell' = true) (h63 : n + m ≤ maxLen) (hbytes : (n + m) * bytes ≤ 140737488355328)
    (h : ∀ ao' cap' w', Own w' size ao' (n + m) cap' (cs ++ news) → Chg (fun k => ∃ a, ao = some a ∧ a.block = k) w w' → (ao' = none → ao = none ∧ m = 0) → (∀ a', ao' = some a' → ao = some a' ∨ w.heap.size ≤ a'.block) →
      K (a.put o.dst (.slice ao' (n + m) cap')) w') : if Region.wanted o (yielded ops a.tmps) = true then Oper.wp P o a w K Q else E := by
  rw [if_pos (by simp [Region.wanted, hgd])]
  exact wp_append' s x hE ho hs hx hown hl hnews h1 h63 hbytes h
theorem step_append_in {P : Program} {w : World} {t e : TypeId} {z : Value} {size bytes : Nat} {ops : Array Oper} {o : Oper} {a : Act} {K : Act → World → Prop} {Q : Exit → Act → World → Prop} {E : Prop} (hgd : o.guard = none) (s x : Operand) (hE : ElemOf P t e z size bytes)
    (ho : o.op = .call { callee := .builtin .append, args := #[s, x], argTypes := #[t, t] }) {ao bo : Option Addr} {n cap m c : Nat} {cs news : List Value}
    (hs : a.eval s = .slice ao n cap) (hx : a.eval x = .slice bo m c) (hown : Own w size ao n cap cs)
    (hl : news.length = m * size) (hnews : Row w bo news) (h1 : ∀ u ∈ news, u.oneCell' = true) (hroom : n + m ≤ cap) (hbytes : (n + m) * bytes ≤ 140737488355328)
    (h : ∀ w', Own w' size ao (n + m) cap (cs ++ news) → Chg (fun k => ∃ a, ao = some a ∧ a.block = k) w w' →
      K (a.put o.dst (.slice ao (n + m) cap)) w') : if Region.wanted o (yielded ops a.tmps) = true then Oper.wp P o a w K Q else E := by
  rw [if_pos (by simp [Region.wanted, hgd])]
  obtain ⟨w', hr, h2, h3⟩ := run_append_in (w := w) o.type hE (c := c) hown hl hnews h1 hroom hbytes
  unfold Oper.wp execOp
  simp only [ho, resolve, invoke, builtin, Sem.run_bind, Sem.run_pure, Result.andThen_ok, List.map_toArray, List.map_cons, List.map_nil, hs, hx, hr]
  exact h w' h2 h3
theorem chg_setCells (b : Nat) : ∀ (vs : List Value) (o : Nat) (w : World), Chg (· = b) w (w.setCells b o vs)
  | [], _, w => Chg.refl _ w
  | v :: r, o, w => (Chg.one w b o v).trans (chg_setCells b r (o + 1) _) (fun _ _ h => h)
/-- Cells behind the first ones, written. -/
theorem Own.behind {w : World} {size b off n cap O : Nat} {cs vs : List Value} (h : Own w size (some ⟨b, off, none⟩) n cap cs) (hO : off + n * size ≤ O) (hl : O + vs.length ≤ off + cap * size) :
    Own (w.setCells b O vs) size (some ⟨b, off, none⟩) n cap cs := by
  obtain ⟨_, h2, h3, h4⟩ := h.at_ _ rfl
  simp only at h2 h3 h4
  have hcell : ∀ j, j < vs.length → (w.cell? ⟨b, O + j, none⟩).isSome = true := fun j hj => by
    have := (h3 (O - off + j) (by omega)).1; rwa [show off + (O - off + j) = O + j by omega] at this
  refine ⟨h.len, h.le, h.max, by simp, ?_⟩
  rintro a ⟨⟩
  refine ⟨rfl, Nat.lt_of_lt_of_le h2 (chg_setCells b vs O w).size, fun j hj => ⟨?_, ?_⟩, fun k v hv => ?_⟩
  · by_cases hin : O ≤ off + j ∧ off + j < O + vs.length
    · have := World.cell?_setCells_in b vs O w hcell (off + j - O) (by omega)
      rw [show O + (off + j - O) = off + j by omega] at this
      simp only [this, Option.isSome_some]
    · rw [World.cell?_setCells_out b vs O w ⟨b, off + j, none⟩ (fun _ _ => by simp only; omega)]
      exact (h3 j hj).1
  · rw [World.frozen?_setCells]; exact (h3 j hj).2
  · have hk : k < cs.length := by
      rcases Nat.lt_or_ge k cs.length with h | h
      · exact h
      · rw [List.getElem?_eq_none h] at hv; cases hv
    rw [h.len] at hk
    rw [World.cell?_setCells_out b vs O w ⟨b, off + k, none⟩ (fun _ _ => by simp only; omega)]
    exact h4 k v hv
/-- clear, of what lies behind the first ones of a slice that is owned. -/
theorem run_clear' {P : Program} {w : World} {t e : TypeId} {z : Value} {size bytes : Nat} (ty : TypeId) (hE : ElemOf P t e z size bytes) {b off n cap m c O : Nat} {cs : List Value} (hO : O = off + n * size) (hown : Own w size (some ⟨b, off, none⟩) n cap cs)
    (hm : 0 < m) (hroom : n + m ≤ cap) (h1 : ∀ u ∈ z.cells.toList, u.oneCell' = true) :
    ∃ w', (Builtin.clear_ #[t] ty #[.slice (some ⟨b, O, none⟩) m c]).run P w = .ok (.tuple #[]) w' ∧ Own w' size (some ⟨b, off, none⟩) n cap cs ∧ Chg (· = b) w w' := by
  obtain ⟨i, hi, hz, hsize, hby⟩ := hE.info
  have hu := hE.under
  have hzs := hE.zsize
  have hpos := hE.pos
  subst hO
  have hmul : (n + m) * size ≤ cap * size := Nat.mul_le_mul_right _ hroom
  have hadd : (n + m) * size = n * size + m * size := Nat.add_mul _ _ _
  obtain ⟨_, h2, h3, h4⟩ := hown.at_ _ rfl
  simp only at h2 h3 h4
  have hlen : (Builtin.zeroCells z.cells m).toList.length = m * size := by rw [Array.length_toList, size_zeroCells, hzs]
  have hone : ∀ v ∈ (Builtin.zeroCells z.cells m).toList, v.oneCell' = true := by
    intro v hv
    simp only [Builtin.zeroCells, Array.toList_map, List.mem_map] at hv
    obtain ⟨k, _, rfl⟩ := hv
    have hk : k % z.cells.size < z.cells.size := Nat.mod_lt _ (by omega)
    rw [getElem!_pos z.cells _ hk]
    exact h1 _ (by simp)
  have hst := run_storeCells_cells (P := P) b (off + n * size) (Builtin.zeroCells z.cells m).toList 0 w
    (fun j hj => by have := (h3 (n * size + j) (by omega)).1; rwa [show off + (n * size + j) = off + n * size + 0 + j by omega] at this)
    (fun j hj => by have := (h3 (n * size + j) (by omega)).2; rwa [show off + (n * size + j) = off + n * size + 0 + j by omega] at this) hone
  simp only [Nat.add_zero] at hst
  refine ⟨_, ?_, hown.behind (vs := (Builtin.zeroCells z.cells m).toList) (Nat.le_refl _) (by omega), chg_setCells b _ _ w⟩
  obtain ⟨m, rfl⟩ : ∃ k, m = k + 1 := ⟨m - 1, by omega⟩
  simp [Builtin.clear_, run_underlying hu, zeroValue, typeInfo, hi, hz, hst]
theorem wpList_clear' {P : Program} {w : World} {t e : TypeId} {z : Value} {size bytes : Nat} {ops : Array Oper} {rest : List Oper} {o : Oper} {a : Act} {Q : Exit → Act → World → Prop} (hgd : o.guard = none) (x : Operand) (hE : ElemOf P t e z size bytes)
    (ho : o.op = .call { callee := .builtin .clear, args := #[x], argTypes := #[t] }) {b off n cap m c O : Nat} {cs : List Value} (hx : a.eval x = .slice (some ⟨b, O, none⟩) m c) (hO : O = off + n * size) (hown : Own w size (some ⟨b, off, none⟩) n cap cs)
    (hm : 0 < m) (hroom : n + m ≤ cap) (h1 : ∀ u ∈ z.cells.toList, u.oneCell' = true)
    (h : ∀ w', Own w' size (some ⟨b, off, none⟩) n cap cs → Chg (· = b) w w' → wpList P ops Q rest (a.put o.dst (.tuple #[])) w') : wpList P ops Q (o :: rest) a w := by
  refine wpList_plain hgd fun K hK => ?_
  obtain ⟨w', hr, h2, h3⟩ := run_clear' (w := w) o.type hE (c := c) hO hown hm hroom h1
  unfold Oper.wp execOp
  simp only [ho, resolve, invoke, builtin, Sem.run_bind, Sem.run_pure, Result.andThen_ok, List.map_toArray, List.map_cons, List.map_nil, hx, hr]
  exact hK _ _ (h w' h2 h3)
theorem own_at {w : World} {b off n c : Nat} {l : List UInt8} (h : Own w 1 (some ⟨b, off, none⟩) n c (l.map cb)) {k : Nat} (hk : k < l.length) :
    ∃ v : UInt8, l[k]? = some v ∧ w.cell? ⟨b, off + k, none⟩ = some (.int .u8 (v.toNat : Int)) ∧ w.frozen? ⟨b, off + k, none⟩ = false := by
  have := h.cellAt (k := k) (v := cb l[k]) (by simp [hk])
  exact ⟨_, List.getElem?_eq_getElem hk, this⟩
/-- What such a call has turned is of its own. -/
theorem chg_new {w w1 w2 : World} {o : Obj} (h1 : Below w.heap.size w w1) (h2 : Chg (fun k => ∃ a, some (⟨w1.heap.size, 0, none⟩ : Addr) = some a ∧ a.block = k) (w1.alloc o) w2) : Below w.heap.size w w2 := by
  refine (h1.alloc h1.size o).trans (h2.below (by have := h1.size; simp; omega) ?_)
  rintro k ⟨a, h, rfl⟩; cases h; exact h1.size
theorem new_blk {w w1 : World} {o : Obj} {xo : Option Addr} (h1 : Below w.heap.size w w1) (h : ∀ a', xo = some a' → some (⟨w1.heap.size, 0, none⟩ : Addr) = some a' ∨ (w1.alloc o).heap.size ≤ a'.block) :
    ∀ a', xo = some a' → w.heap.size ≤ a'.block := by
  intro a' ha
  have := h1.size
  rcases h a' ha with e | e
  · cases e; exact this
  · simp at e; omega
theorem chg_on {B : Nat} {w w2 w3 : World} {xo : Option Addr} (h1 : Below B w w2) (h2 : Chg (fun k => ∃ a, xo = some a ∧ a.block = k) w2 w3) (hB : B ≤ w2.heap.size) (hx : ∀ a', xo = some a' → B ≤ a'.block) : Below B w w3 := by
  refine h1.trans (h2.below hB ?_)
  rintro k ⟨a, ha, rfl⟩; exact hx a ha
end Go.Proofs.YtackmgmaippajaaGreat
-- part Open
namespace Go.Proofs.YtackmgmaippajaaGreat
set_option maxRecDepth 100000
open Go Go.RowKit Go.WideShapes

/-- The cells 'cs' read as a thing of type t. -/
def Rd (P : Program) (w : World) (t : TypeId) (cs : List Value) : Prop :=
  ∃ (H : Type) (enc : TypeId × Value → H) (fuel : Nat) (x : DataW H × List MemPlace), DataW.trod enc P w 0 (fun _ => true) true fuel t cs = some x
theorem Rd.of {H : Type} {enc : TypeId × Value → H} {P : Program} {w : World} {t : TypeId} {v : Value} {d : DataW H} {ps : List MemPlace}
    (h : DataW.Trod enc P w 0 (fun _ => true) true t v d ps) : Rd P w t v.cells.toList :=
  let ⟨fuel, hf⟩ := h; ⟨H, enc, fuel, _, hf⟩
section
variable {P : Program} {w : World} {t : TypeId} {cs : List Value}
theorem Rd.int {k : IntKind} (hu : P.underlying t = some (.int k)) (h : Rd P w t cs) : ∃ n : Int, cs = [.int k n] ∧ (Lit.int k n).wf = true := by
  obtain ⟨H, enc, fuel, x, hx⟩ := h
  obtain ⟨n, h1, h2, h3⟩ := DataW.trod_int hu hx
  exact ⟨n, h1, h3⟩
theorem Rd.bool (hu : P.underlying t = some .bool) (h : Rd P w t cs) : ∃ b : Bool, cs = [.bool b] := by
  obtain ⟨H, enc, fuel, x, hx⟩ := h
  obtain ⟨n, h1, h2⟩ := DataW.trod_bool hu hx
  exact ⟨n, h1⟩
theorem Rd.string (hu : P.underlying t = some .string) (h : Rd P w t cs) : ∃ s : ByteArray, cs = [.string s] ∧ s.size ≤ maxLen := by
  obtain ⟨H, enc, fuel, x, hx⟩ := h
  cases fuel with
  | zero => simp [DataW.trod] at hx
  | succ n =>
    simp only [DataW.trod, hu] at hx
    split at hx <;> simp_all
/-- A slice: nil, or 'cap' elements one behind the other, each of which reads as a thing of the element's type. -/
theorem Rd.slice {e : TypeId} (hu : P.underlying t = some (.slice e)) (h : Rd P w t cs) :
    ∃ ao len cap, cs = [.slice ao len cap] ∧ len ≤ cap ∧ cap ≤ maxLen ∧ (ao = none → cap = 0) ∧
      ∀ a, ao = some a → ∀ i, i < cap → ∃ es, w.cells? 0 (a.add (i * P.cellsOf e)) (P.cellsOf e) = some es ∧ Rd P w e es := by
  obtain ⟨H, enc, fuel, x, hx⟩ := h
  rcases DataW.trod_slice hu hx with ⟨h0, _⟩ | ⟨a, len, cap, elems, rest, n, rfl, rfl, rfl, hb, hl, hm, hlen, hel, hsp, hns⟩
  · exact ⟨none, 0, 0, h0, Nat.le_refl _, by simp, fun _ => rfl, fun a ha => by cases ha⟩
  · refine ⟨some a, len, cap, rfl, hl, hm, by simp, ?_⟩
    rintro a' ⟨⟩ i hi
    obtain ⟨hr1, hr2⟩ := hsp rfl
    have key : ∃ y, (w.cells? 0 (a.add (i * P.cellsOf e)) (P.cellsOf e)).bind (DataW.trod enc P w 0 (fun _ => true) true n e) = some y := by
      by_cases hil : i < len
      · rw [hel i hil]; exact ⟨elems[i], List.getElem?_eq_getElem (by omega)⟩
      · have := hr2 (i - len) (by omega)
        rw [show len + (i - len) = i by omega] at this
        rw [this]; exact ⟨rest[i - len], List.getElem?_eq_getElem (by omega)⟩
    obtain ⟨y, hy⟩ := key
    cases hc : w.cells? 0 (a.add (i * P.cellsOf e)) (P.cellsOf e) with
    | none => rw [hc] at hy; simp at hy
    | some es => rw [hc] at hy; exact ⟨es, rfl, H, enc, n, y, by simpa using hy⟩
theorem mapM_each {α β : Type} {f : α → Option β} : ∀ {l : List α} {ys : List β}, l.mapM f = some ys → ∀ x ∈ l, ∃ y, f x = some y
  | [], _, _, x, hx => by cases hx
  | a :: l, ys, h, x, hx => by
    rw [List.mapM_cons] at h
    cases ha : f a with
    | none => rw [ha] at h; simp at h
    | some y =>
      rw [ha] at h
      cases hl : l.mapM f with
      | none => rw [hl] at h; simp at h
      | some zs =>
        rcases List.mem_cons.1 hx with rfl | hm
        · exact ⟨y, ha⟩
        · exact mapM_each hl x hm
theorem Rd.struct {fs : Array Field} (hu : P.underlying t = some (.struct fs)) (h : Rd P w t cs) :
    cs.length = P.cellsOf t ∧ ∀ f ∈ fs.toList, Rd P w f.type ((cs.drop f.offset).take (P.cellsOf f.type)) := by
  obtain ⟨H, enc, fuel, x, hx⟩ := h
  cases fuel with
  | zero => simp [DataW.trod] at hx
  | succ n =>
    simp only [DataW.trod, hu] at hx
    split at hx
    · rename_i hlen
      refine ⟨hlen, fun f hf => ?_⟩
      cases hm : fs.toList.mapM fun f => DataW.trod enc P w 0 (fun _ => true) true n f.type ((cs.drop f.offset).take (P.cellsOf f.type)) with
      | none => rw [hm] at hx; simp at hx
      | some ys => obtain ⟨y, hy⟩ := mapM_each hm f hf; exact ⟨H, enc, n, y, hy⟩
    · cases hx
theorem Rd.field {fs : Array Field} (hu : P.underlying t = some (.struct fs)) (h : Rd P w t cs) {f : Field} (i : Nat) (hf : fs[i]? = some f) {n : Nat} (hn : P.cellsOf f.type = n) : Rd P w f.type ((cs.drop f.offset).take n) := by
  subst hn
  exact (h.struct hu).2 f (Array.mem_toList_iff.2 (Array.mem_of_getElem? hf))
theorem Rd.array {m : Nat} {e : TypeId} (hu : P.underlying t = some (.array m e)) (h : Rd P w t cs) :
    cs.length = P.cellsOf t ∧ ∀ i, i < m → Rd P w e ((cs.drop (i * P.cellsOf e)).take (P.cellsOf e)) := by
  obtain ⟨H, enc, fuel, x, hx⟩ := h
  cases fuel with
  | zero => simp [DataW.trod] at hx
  | succ n =>
    simp only [DataW.trod, hu] at hx
    split at hx
    · rename_i hlen
      refine ⟨hlen, fun i hi => ?_⟩
      cases hm : (List.range m).mapM fun i => DataW.trod enc P w 0 (fun _ => true) true n e ((cs.drop (i * P.cellsOf e)).take (P.cellsOf e)) with
      | none => rw [hm] at hx; simp at hx
      | some ys => obtain ⟨y, hy⟩ := mapM_each hm i (by simpa using hi); exact ⟨H, enc, n, y, hy⟩
    · cases hx
end
/-- Elements 'xs', each 'size' cells, one behind the other from 'ao' on; 'Is x es': the cells es are x. -/
def RowOf {α : Type} (w : World) (ao : Option Addr) (size : Nat) (Is : α → List Value → Prop) (xs : List α) : Prop :=
  0 < xs.length → ∃ b off, ao = some ⟨b, off, none⟩ ∧ ∀ i (h : i < xs.length), ∃ es, es.length = size ∧ Is xs[i] es ∧ ∀ j v, es[j]? = some v → w.cell? ⟨b, off + i * size + j, none⟩ = some v
theorem list_choose {α : Type} {p : Nat → α → Prop} : ∀ n, (∀ i, i < n → ∃ x, p i x) → ∃ xs : List α, xs.length = n ∧ ∀ i (h : i < xs.length), p i xs[i]
  | 0, _ => ⟨[], rfl, fun i h => by simp at h⟩
  | n + 1, h => by
    obtain ⟨xs, hl, hx⟩ := list_choose n (fun i hi => h i (by omega))
    obtain ⟨y, hy⟩ := h n (by omega)
    refine ⟨xs ++ [y], by simp [hl], fun i hi => ?_⟩
    by_cases hin : i < xs.length
    · rw [List.getElem_append_left hin]; exact hx i hin
    · have : i = n := by simp at hi; omega
      subst this
      rw [List.getElem_append_right (by omega)]
      simpa [hl] using hy
theorem cells?_at {w : World} {b o : Nat} {s : Option Nat} {n : Nat} {es : List Value} (h : w.cells? 0 ⟨b, o, s⟩ n = some es) (hn : 0 < n) :
    s = none ∧ es.length = n ∧ ∀ j v, es[j]? = some v → w.cell? ⟨b, o + j, none⟩ = some v := by
  obtain ⟨_, hl, hc⟩ := World.cells?_some h
  have hs : s = none := by
    have h0 := hc 0 hn
    cases s with
    | none => rfl
    | some q =>
      have e : (⟨b, o, some q⟩ : Addr).add 0 = ⟨b, o, some q⟩ := rfl
      rw [e] at h0
      have hsome : es[0]? = some es[0] := List.getElem?_eq_getElem (by omega)
      rw [hsome] at h0
      simp only [World.cell?] at h0
      split at h0 <;> simp at h0
  subst hs
  refine ⟨rfl, hl, fun j v hj => ?_⟩
  have hjl : j < n := by
    rcases Nat.lt_or_ge j es.length with h | h
    · omega
    · rw [List.getElem?_eq_none h] at hj; cases hj
  have := hc j hjl
  rw [hj] at this
  rw [← this]
  congr 1
  unfold Addr.add
  split <;> simp_all
theorem Rd.slice_of {α : Type} {P : Program} {w : World} {t e : TypeId} {cs : List Value} (hu : P.underlying t = some (.slice e)) {size : Nat} (hs : P.cellsOf e = size) (h0 : 0 < size)
    (Is : α → List Value → Prop) (hI : ∀ es, Rd P w e es → ∃ x, Is x es) (h : Rd P w t cs) :
    ∃ ao xs cap, cs = [.slice ao (List.length xs) cap] ∧ xs.length ≤ cap ∧ cap ≤ maxLen ∧ (ao = none → cap = 0) ∧ RowOf w ao size Is xs := by
  obtain ⟨ao, len, cap, rfl, hl, hm, hn, hc⟩ := h.slice hu
  cases ao with
  | none =>
    have := hn rfl
    obtain rfl : len = 0 := by omega
    exact ⟨none, [], cap, rfl, by simp, hm, hn, fun h => by simp at h⟩
  | some a =>
    obtain ⟨b, off, s⟩ := a
    have each : ∀ i, i < len → ∃ x : α, (s = none ∧ ∃ es, es.length = size ∧ Is x es ∧ ∀ j v, es[j]? = some v → w.cell? ⟨b, off + i * size + j, none⟩ = some v) := by
      intro i hi
      obtain ⟨es, he, hr⟩ := hc _ rfl i (by omega)
      rw [hs] at he
      have h00 : s = none := by
        obtain ⟨es0, he0, _⟩ := hc _ rfl 0 (by omega)
        rw [hs, Nat.zero_mul] at he0
        exact (cells?_at he0 h0).1
      subst h00
      have e1 : (⟨b, off, none⟩ : Addr).add (i * size) = ⟨b, off + i * size, none⟩ := by unfold Addr.add; split <;> simp_all
      rw [e1] at he
      obtain ⟨_, h2, h3⟩ := cells?_at he h0
      obtain ⟨x, hx⟩ := hI es hr
      exact ⟨x, rfl, es, h2, hx, h3⟩
    obtain ⟨xs, hxl, hx⟩ := list_choose len each
    refine ⟨some ⟨b, off, s⟩, xs, cap, by rw [hxl], by omega, hm, hn, fun hpos => ?_⟩
    obtain ⟨rfl, _⟩ := hx 0 hpos
    exact ⟨b, off, rfl, fun i hi => (hx i hi).2⟩
/-- Bytes that come in. -/
theorem Rd.bytes {P : Program} {w : World} {t e : TypeId} {cs : List Value} (hu : P.underlying t = some (.slice e)) (he : P.underlying e = some (.int .u8)) (hs : P.cellsOf e = 1) (h : Rd P w t cs) :
    ∃ ao bs cap, cs = [.slice ao (List.length bs) cap] ∧ bs.length ≤ cap ∧ cap ≤ maxLen ∧ (ao = none → cap = 0) ∧ Bts w ao bs := by
  obtain ⟨ao, bs, cap, h1, h2, h3, h4, h5⟩ := h.slice_of hu hs (by decide) (fun (x : UInt8) es => es = [cb x]) (by
    intro es hr
    obtain ⟨n, rfl, hw⟩ := hr.int he
    simp [Lit.wf, IntKind.min, IntKind.max, IntKind.signed, IntKind.bits] at hw
    exact ⟨UInt8.ofNat n.toNat, by simp only [cb, UInt8.toNat_ofNat']; rw [Nat.mod_eq_of_lt (by omega)]; congr 2; omega⟩)
  refine ⟨ao, bs, cap, h1, h2, h3, h4, fun hne => ?_⟩
  obtain ⟨b, off, rfl, hc⟩ := h5 (by cases bs <;> simp_all)
  refine ⟨b, off, rfl, fun i v hv => ?_⟩
  rw [List.getElem?_map] at hv
  have hi : i < bs.length := by
    rcases Nat.lt_or_ge i bs.length with h | h
    · exact h
    · rw [List.getElem?_eq_none h] at hv; cases hv
  obtain ⟨es, _, rfl, hj⟩ := hc i hi
  rw [List.getElem?_eq_getElem hi] at hv
  simp at hv
  subst hv
  simpa using hj 0 _ rfl
theorem Rd.u8 {P : Program} {w : World} {t : TypeId} {cs : List Value} (hu : P.underlying t = some (.int .u8)) (h : Rd P w t cs) : ∃ c : UInt8, cs = [.int .u8 (c.toNat : Int)] := by
  obtain ⟨n, rfl, hw⟩ := h.int hu
  simp [Lit.wf, IntKind.min, IntKind.max, IntKind.signed, IntKind.bits] at hw
  exact ⟨UInt8.ofNat n.toNat, by simp only [UInt8.toNat_ofNat']; rw [Nat.mod_eq_of_lt (by omega)]; congr 2; omega⟩
theorem Rd.i64 {P : Program} {w : World} {t : TypeId} {cs : List Value} (hu : P.underlying t = some (.int .i64)) (h : Rd P w t cs) : ∃ n : Int, cs = [.int .i64 n] ∧ -9223372036854775808 ≤ n ∧ n ≤ 9223372036854775807 := by
  obtain ⟨n, rfl, hw⟩ := h.int hu
  simp [Lit.wf, IntKind.min, IntKind.max, IntKind.signed, IntKind.bits] at hw
  exact ⟨n, rfl, hw⟩
theorem Rd.u64 {P : Program} {w : World} {t : TypeId} {cs : List Value} (hu : P.underlying t = some (.int .u64)) (h : Rd P w t cs) : ∃ n : Nat, cs = [.int .u64 (n : Int)] ∧ n < 18446744073709551616 := by
  obtain ⟨n, rfl, hw⟩ := h.int hu
  simp [Lit.wf, IntKind.min, IntKind.max, IntKind.signed, IntKind.bits] at hw
  exact ⟨n.toNat, by congr 2; omega, by omega⟩
/-! ### lists of known length -/
theorem list1 {α : Type} {l : List α} (h : l.length = 1) : ∃ a, l = [a] := by match l, h with | [a], _ => exact ⟨a, rfl⟩
theorem list2 {α : Type} {l : List α} (h : l.length = 2) : ∃ a b, l = [a, b] := by match l, h with | [a, b], _ => exact ⟨a, b, rfl⟩
theorem list3 {α : Type} {l : List α} (h : l.length = 3) : ∃ a b c, l = [a, b, c] := by match l, h with | [a, b, c], _ => exact ⟨a, b, c, rfl⟩
theorem list4 {α : Type} {l : List α} (h : l.length = 4) : ∃ a b c d, l = [a, b, c, d] := by match l, h with | [a, b, c, d], _ => exact ⟨a, b, c, d, rfl⟩
theorem list5 {α : Type} {l : List α} (h : l.length = 5) : ∃ a b c d e, l = [a, b, c, d, e] := by match l, h with | [a, b, c, d, e], _ => exact ⟨a, b, c, d, e, rfl⟩
theorem list6 {α : Type} {l : List α} (h : l.length = 6) : ∃ a b c d e f, l = [a, b, c, d, e, f] := by match l, h with | [a, b, c, d, e, f], _ => exact ⟨a, b, c, d, e, f, rfl⟩
/-! ### arguments -/
theorem in_struct {P : Program} {w : World} {r : Reach} {base : Nat} {t : TypeId} {fs : Array Field} {v : Value} (hu : P.underlying t = some (.struct fs)) (hk : Value.okWide P w r base t v) : ∃ cs : List Value, v = .agg cs.toArray ∧ v.cells.toList = cs := by
  obtain ⟨cs, rfl, _⟩ := okWide_struct hu hk
  exact ⟨cs.toList, by simp, by simp [Value.cells]⟩
theorem in_bytes {P : Program} {w : World} {r : Reach} {base : Nat} {t e : TypeId} {v : Value} (hu : P.underlying t = some (.slice e)) (he : P.underlying e = some (.int .u8)) (hs : P.cellsOf e = 1)
    (hk : Value.okWide P w r base t v) (h : Rd P w t v.cells.toList) : ∃ ao bs cap, v = .slice ao (List.length bs) cap ∧ Bts w ao bs := by
  obtain ⟨a0, l0, c0, rfl⟩ := okWide_slice hu hk
  obtain ⟨ao, bs, cap, hcs, _, _, _, hb⟩ := h.bytes hu he hs
  simp [Value.cells] at hcs
  obtain ⟨rfl, rfl, rfl⟩ := hcs
  exact ⟨_, bs, _, rfl, hb⟩
theorem in_bytes' {P : Program} {w : World} {r : Reach} {base : Nat} {t e : TypeId} {v : Value} (hu : P.underlying t = some (.slice e)) (he : P.underlying e = some (.int .u8)) (hs : P.cellsOf e = 1)
    (hk : Value.okWide P w r base t v) (h : Rd P w t v.cells.toList) : ∃ ao bs cap, v = .slice ao (List.length bs) cap ∧ Bts w ao bs ∧ bs.length ≤ cap := by
  obtain ⟨a0, l0, c0, rfl⟩ := okWide_slice hu hk
  obtain ⟨ao, bs, cap, hcs, hc, _, _, hb⟩ := h.bytes hu he hs
  simp [Value.cells] at hcs
  obtain ⟨rfl, rfl, rfl⟩ := hcs
  exact ⟨_, bs, _, rfl, hb, hc⟩
theorem in_bytesC {P : Program} {w : World} {r : Reach} {base : Nat} {t e : TypeId} {v : Value} (hu : P.underlying t = some (.slice e)) (he : P.underlying e = some (.int .u8)) (hs : P.cellsOf e = 1)
    (hk : Value.okWide P w r base t v) (h : Rd P w t v.cells.toList) : ∃ ao bs cap, v = .slice ao (List.length bs) cap ∧ Bts w ao bs ∧ bs.length ≤ cap ∧ cap ≤ maxLen := by
  obtain ⟨a0, l0, c0, rfl⟩ := okWide_slice hu hk
  obtain ⟨ao, bs, cap, hcs, hc, hm, _, hb⟩ := h.bytes hu he hs
  simp [Value.cells] at hcs
  obtain ⟨rfl, rfl, rfl⟩ := hcs
  exact ⟨_, bs, _, rfl, hb, hc, hm⟩
theorem in_slice {α : Type} {P : Program} {w : World} {r : Reach} {base : Nat} {t e : TypeId} {v : Value} (hu : P.underlying t = some (.slice e)) {size : Nat} (hs : P.cellsOf e = size) (h0 : 0 < size)
    (Is : α → List Value → Prop) (hI : ∀ es, Rd P w e es → ∃ x, Is x es) (hk : Value.okWide P w r base t v) (h : Rd P w t v.cells.toList) :
    ∃ ao xs cap, v = .slice ao (List.length xs) cap ∧ RowOf w ao size Is xs ∧ xs.length ≤ cap ∧ cap ≤ maxLen := by
  obtain ⟨a0, l0, c0, rfl⟩ := okWide_slice hu hk
  obtain ⟨ao, xs, cap, hcs, hl, hm, _, hb⟩ := h.slice_of hu hs h0 Is hI
  simp [Value.cells] at hcs
  obtain ⟨rfl, rfl, rfl⟩ := hcs
  exact ⟨_, xs, _, rfl, hb, hl, hm⟩
theorem in_int {P : Program} {w : World} {r : Reach} {base : Nat} {t : TypeId} {k : IntKind} {v : Value} (hu : P.underlying t = some (.int k)) (hk : Value.okWide P w r base t v) (h : Rd P w t v.cells.toList) :
    ∃ n : Int, v = .int k n ∧ k.min ≤ n ∧ n ≤ k.max := by
  obtain ⟨n, rfl⟩ := okWide_int hu hk
  obtain ⟨m, hcs, hw⟩ := h.int hu
  simp [Value.cells] at hcs
  subst hcs
  simp [Lit.wf] at hw
  exact ⟨_, rfl, hw⟩
theorem in_bool {P : Program} {w : World} {r : Reach} {base : Nat} {t : TypeId} {v : Value} (hu : P.underlying t = some .bool) (hk : Value.okWide P w r base t v) : ∃ b : Bool, v = .bool b := okWide_bool hu hk
theorem in_i64 {P : Program} {w : World} {r : Reach} {base : Nat} {t : TypeId} {v : Value} (hu : P.underlying t = some (.int .i64)) (hk : Value.okWide P w r base t v) (h : Rd P w t v.cells.toList) :
    ∃ n : Int, v = .int .i64 n ∧ -9223372036854775808 ≤ n ∧ n ≤ 9223372036854775807 := by
  obtain ⟨n, e, h1, h2⟩ := in_int hu hk h
  exact ⟨n, e, by simpa [IntKind.min, IntKind.signed, IntKind.bits] using h1, by simpa [IntKind.max, IntKind.signed, IntKind.bits] using h2⟩
theorem in_u32 {P : Program} {w : World} {r : Reach} {base : Nat} {t : TypeId} {v : Value} (hu : P.underlying t = some (.int .u32)) (hk : Value.okWide P w r base t v) (h : Rd P w t v.cells.toList) :
    ∃ n : BitVec 32, v = .int .u32 (n.toNat : Int) := by
  obtain ⟨n, rfl, h1, h2⟩ := in_int hu hk h
  simp [IntKind.min, IntKind.max, IntKind.signed, IntKind.bits] at h1 h2
  refine ⟨BitVec.ofNat 32 n.toNat, ?_⟩
  rw [BitVec.toNat_ofNat, Nat.mod_eq_of_lt (by omega)]
  congr 1; omega
theorem in_u8 {P : Program} {w : World} {r : Reach} {base : Nat} {t : TypeId} {v : Value} (hu : P.underlying t = some (.int .u8)) (hk : Value.okWide P w r base t v) (h : Rd P w t v.cells.toList) :
    ∃ n : UInt8, v = .int .u8 (n.toNat : Int) := by
  obtain ⟨n, rfl⟩ := okWide_int hu hk
  obtain ⟨c, hc⟩ := h.u8 hu
  simp [Value.cells] at hc
  exact ⟨c, by rw [hc]⟩
theorem in_u16 {P : Program} {w : World} {r : Reach} {base : Nat} {t : TypeId} {v : Value} (hu : P.underlying t = some (.int .u16)) (hk : Value.okWide P w r base t v) (h : Rd P w t v.cells.toList) :
    ∃ n : Nat, v = .int .u16 (n : Int) ∧ n < 65536 := by
  obtain ⟨n, rfl, h1, h2⟩ := in_int hu hk h
  simp [IntKind.min, IntKind.max, IntKind.signed, IntKind.bits] at h1 h2
  exact ⟨n.toNat, by congr 1; omega, by omega⟩
theorem Rd.u16 {P : Program} {w : World} {t : TypeId} {cs : List Value} (hu : P.underlying t = some (.int .u16)) (h : Rd P w t cs) : ∃ n : Nat, cs = [.int .u16 (n : Int)] ∧ n < 65536 := by
  obtain ⟨n, rfl, hw⟩ := h.int hu
  simp [Lit.wf, IntKind.min, IntKind.max, IntKind.signed, IntKind.bits] at hw
  exact ⟨n.toNat, by congr 2; omega, by omega⟩
end Go.Proofs.YtackmgmaippajaaGreat
-- part Base
namespace Go.Proofs.YtackmgmaippajaaGreat
set_option maxRecDepth 100000
open Go Go.RowKit

theorem heap_top (w : World) (o : Obj) : (w.alloc o).heap[w.heap.size]? = some o := by show (w.heap.push o)[w.heap.size]? = _; simp
theorem size_alloc (w : World) (o : Obj) : (w.alloc o).heap.size = w.heap.size + 1 := by show (w.heap.push o).size = _; simp
theorem cells3 {w : World} {p : Nat} {a b c : Value} {t : TypeId} (h : w.heap[p]? = some (.cells #[a, b, c] t (0, 0))) :
    w.cell? ⟨p, 0, none⟩ = some a ∧ w.cell? ⟨p, 1, none⟩ = some b ∧ w.cell? ⟨p, 2, none⟩ = some c ∧ ∀ i, w.frozen? ⟨p, i, none⟩ = false := by
  have h0 := heap_cell h 0
  have h1 := heap_cell h 1
  have h2 := heap_cell h 2
  simp at h0 h1 h2
  exact ⟨h0, h1, h2, fun i => heap_frozen h i⟩
theorem cells1 {w : World} {p : Nat} {a : Value} {t : TypeId} (h : w.heap[p]? = some (.cells #[a] t (0, 0))) : w.cell? ⟨p, 0, none⟩ = some a ∧ ∀ i, w.frozen? ⟨p, i, none⟩ = false := by
  have h0 := heap_cell h 0
  simp at h0
  exact ⟨h0, fun i => heap_frozen h i⟩
theorem cells2 {w : World} {p : Nat} {a b : Value} {t : TypeId} (h : w.heap[p]? = some (.cells #[a, b] t (0, 0))) : w.cell? ⟨p, 0, none⟩ = some a ∧ w.cell? ⟨p, 1, none⟩ = some b ∧ ∀ i, w.frozen? ⟨p, i, none⟩ = false := by
  have h0 := heap_cell h 0
  have h1 := heap_cell h 1
  simp at h0 h1
  exact ⟨h0, h1, fun i => heap_frozen h i⟩
/-- What comes of a call on a thing with the blocks F: it has F' now. -/
def Grew (w : World) (F F' : List Nat) : Prop := ∀ k ∈ F', k ∈ F ∨ w.heap.size ≤ k
theorem Grew.refl (w : World) (F : List Nat) : Grew w F F := fun _ h => .inl h
theorem el_u8 : ElemOf Tryz.prog 25 5 (.int .u8 0) 1 1 := .mk' Tryz.underlying25 (by kernel_rfl) rfl (by decide)
/-- slices.Clone of bytes. -/
theorem clone_any (ao : Option Addr) (n c : Nat) (bs : List UInt8) (w : World) (hl : bs.length = n) (hn : n ≤ 140737488351232) (hc : Bts w ao bs) :
    Calls Tryz.prog 46 #[.slice ao n c] w fun e w' => ∃ bo cap, e = .returned (.slice bo n cap) ∧ Below w.heap.size w w' ∧ Own w' 1 bo n cap (bs.map cb) ∧ ∀ a, bo = some a → w.heap.size ≤ a.block := by
  cases ao with
  | none =>
    have hb : bs = [] := by
      cases bs with
      | nil => rfl
      | cons b bs => obtain ⟨_, _, e, _⟩ := hc (by simp); cases e
    subst hb; subst hl
    have q := Lib.run_eql_slice_nil (P := Tryz.prog) w 25 5 none 0 c 0 0 Tryz.underlying25
    go_enter Tryz.func46, Tryz.ntmps46
    go_wp2
    go_ret
    exact ⟨none, 0, rfl, Below.refl _ _, Own.nil' _ _, by simp⟩
  | some a =>
    have HC := Lib.hid hc; clear hc
    have HL := Lib.hid hl; clear hl
    have q := Lib.run_eql_slice_nil (P := Tryz.prog) w 25 5 (some a) n c 0 0 Tryz.underlying25
    go_enter Tryz.func46, Tryz.ntmps46
    go_wp2_with (at_builtin; refine wpList_append' rfl (.tmp 5) (.tmp 6) el_u8 rfl rfl rfl (Own.alloc0 _ 1 _ _) (by rw [List.length_map, HL.out, Nat.mul_one]) (HC.out.below ((Below.refl _ _).alloc (Nat.le_refl _) _)) (one_cb bs) (by unfold maxLen; omega) (by omega) ?_; intro xo xc w2 hx hch _ hx2; simp only [Nat.zero_add, List.nil_append] at hx; have HO := Lib.hid hx; have HC2 := Lib.hid (chg_new (Below.refl _ _) hch); have HX2 := Lib.hid (new_blk (Below.refl _ _) hx2); clear hx hch hx2)
    go_ret
    exact ⟨xo, xc, rfl, HC2.out, HO.out, HX2.out⟩
end Go.Proofs.YtackmgmaippajaaGreat
-- part Str
namespace Go.Proofs.YtackmgmaippajaaGreat
set_option maxRecDepth 100000
open Go Go.RowKit
/-! ### bytes as a string -/
def strOf (bs : List UInt8) : ByteArray := ⟨bs.toArray⟩
theorem ba_loop (b : ByteArray) : ∀ n i r, b.size - i = n → ByteArray.toList.loop b i r = r.reverse ++ b.data.toList.drop i := by
  intro n
  induction n with
  | zero =>
    intro i r h
    rw [ByteArray.toList.loop]
    have hs : b.data.toList.length = b.size := by rw [Array.length_toList]; rfl
    rw [if_neg (by omega), List.drop_of_length_le (by omega), List.append_nil]
  | succ n ih =>
    intro i r h
    rw [ByteArray.toList.loop]
    have hs : b.data.toList.length = b.size := by rw [Array.length_toList]; rfl
    rw [if_pos (by omega), ih (i + 1) _ (by omega), List.reverse_cons, List.append_assoc]
    congr 1
    have hi : i < b.data.toList.length := by omega
    rw [List.drop_eq_getElem_cons hi]
    simp [ByteArray.get!]
    rw [getElem!_pos]
theorem ba_toList (b : ByteArray) : b.toList = b.data.toList := by
  unfold ByteArray.toList
  rw [ba_loop b _ 0 [] rfl]; rfl
theorem strOf_toList (bs : List UInt8) : (strOf bs).toList = bs := by rw [ba_toList]; rfl
theorem strOf_nums (bs : List UInt8) : strOfNums (bs.map fun b => (b.toNat : Int)) = strOf bs := by
  simp [strOfNums, strOf, Function.comp_def]
theorem conv_bytes {P : Program} (w : World) {src e dst : TypeId} (hs : P.underlying src = some (.slice e)) (he : P.underlying e = some (.int .u8)) (hd : P.underlying dst = some .string) (ao : Option Addr) (n c : Nat) (bs : List UInt8) (hl : bs.length = n) (hb : Bts w ao bs) :
    (convert src dst (.slice ao n c)).run P w = .ok (.string (strOf bs)) w := by
  subst hl
  cases hz : bs with
  | nil =>
    subst hz
    cases ao with
    | none => rw [run_convert_bytes_nil w src e hs he _ _ dst hd]; rfl
    | some a =>
      obtain ⟨b, o, s⟩ := a
      rw [run_convert_bytes_string w src dst e _ _ c hs he hd, run_bytesToString w _ _ c [] (by simp [loadCells, loadCellsFrom])]
      rfl
  | cons x xs =>
    rw [← hz]
    obtain ⟨b, off, rfl, hc⟩ := hb.at (by rw [hz]; simp)
    rw [run_convert_bytes_arg w src e hs he b off bs.length c (bs.map fun b => (b.toNat : Int)) (by simp) (fun i hi => by rw [hc i hi]; simp [hi]) dst hd, strOf_nums]
end Go.Proofs.YtackmgmaippajaaGreat
-- part Flat
namespace Go.Proofs.YtackmgmaippajaaGreat
set_option maxRecDepth 100000
open Go Go.RowKit

/-- How an element lies in cells. -/
structure Elem {E : Type} (cells : E → List Value) (s : Nat) : Prop where
  len : ∀ e, (cells e).length = s
  pos : 0 < s
  one : ∀ e, ∀ u ∈ cells e, u.oneCell' = true
section
variable {E : Type} {cells : E → List Value} {s : Nat}
theorem fl_len (h : Elem cells s) (es : List E) : (es.flatMap cells).length = es.length * s := by
  induction es with
  | nil => simp
  | cons e es ih => rw [List.flatMap_cons, List.length_append, ih, List.length_cons, h.len, Nat.add_mul]; omega
theorem fl_get (h : Elem cells s) {es : List E} {i j : Nat} {e : E} (he : es[i]? = some e) (hj : j < s) : (es.flatMap cells)[i * s + j]? = (cells e)[j]? := by
  induction es generalizing i with
  | nil => simp at he
  | cons x es ih =>
    rw [List.flatMap_cons]
    have hx := h.len x
    cases i with
    | zero =>
      simp at he; subst he
      rw [Nat.zero_mul, Nat.zero_add, List.getElem?_append_left (by omega)]
    | succ i =>
      simp at he
      rw [Nat.add_mul, Nat.one_mul, List.getElem?_append_right (by omega), hx, show i * s + s + j - s = i * s + j by omega]
      exact ih he
theorem fl_take (h : Elem cells s) (es : List E) (i : Nat) : (es.flatMap cells).take (i * s) = (es.take i).flatMap cells := by
  induction es generalizing i with
  | nil => simp
  | cons e es ih =>
    cases i with
    | zero => simp
    | succ i =>
      rw [List.flatMap_cons, List.take_succ_cons, List.flatMap_cons, List.take_append, h.len, Nat.add_mul, Nat.one_mul, Nat.add_sub_cancel, ih, List.take_of_length_le (by rw [h.len]; omega)]
theorem fl_drop (h : Elem cells s) (es : List E) (i : Nat) : (es.flatMap cells).drop (i * s) = (es.drop i).flatMap cells := by
  induction es generalizing i with
  | nil => simp
  | cons e es ih =>
    cases i with
    | zero => simp
    | succ i =>
      rw [List.flatMap_cons, List.drop_succ_cons, List.drop_append, h.len, Nat.add_mul, Nat.one_mul, Nat.add_sub_cancel, ih, List.drop_of_length_le (by rw [h.len]; omega), List.nil_append]
theorem fl_one (h : Elem cells s) (es : List E) : ∀ u ∈ es.flatMap cells, u.oneCell' = true := by
  intro u hu
  obtain ⟨e, _, hu⟩ := List.mem_flatMap.1 hu
  exact h.one e u hu
theorem fl_row (h : Elem cells s) {w : World} {b off n cap : Nat} {es : List E} (ho : Own w s (some ⟨b, off, none⟩) n cap (es.flatMap cells)) (hes : es.length = n) (i : Nat) : Row w (if cap = i then some ⟨b, off, none⟩ else some ⟨b, off + i * s, none⟩) ((es.drop i).flatMap cells) := by
  by_cases hc : cap = i
  · rw [if_pos hc]
    have hle := ho.le
    rw [List.drop_of_length_le (by omega)]
    exact fun h => absurd rfl h
  · rw [if_neg hc, ← fl_drop h]
    exact ho.row.drop (i * s)
theorem fl_own_len (h : Elem cells s) {w : World} {lo : Option Addr} {n cap : Nat} {es : List E} (ho : Own w s lo n cap (es.flatMap cells)) : es.length = n := by
  have := ho.len
  rw [fl_len h] at this
  exact Nat.eq_of_mul_eq_mul_right h.pos this
theorem fl_at (h : Elem cells s) {w : World} {lo : Option Addr} {n cap i : Nat} {es : List E} {e : E} (ho : Own w s lo n cap (es.flatMap cells)) (he : es[i]? = some e) :
    ∃ b off, lo = some ⟨b, off, none⟩ ∧ ∀ j v, (cells e)[j]? = some v → w.cell? ⟨b, off + (i * s + j), none⟩ = some v ∧ w.frozen? ⟨b, off + (i * s + j), none⟩ = false := by
  have hlen := fl_own_len h ho
  have hi := (List.getElem?_eq_some_iff.1 he).1
  cases hlo : lo with
  | none => have := ho.nil hlo; have := ho.le; omega
  | some a =>
    obtain ⟨b, off, sp⟩ := a
    have := (ho.at_ _ hlo).1
    simp at this
    subst this; subst hlo
    refine ⟨b, off, rfl, fun j v hv => ho.cellAt ?_⟩
    have hj : j < s := by
      have := (List.getElem?_eq_some_iff.1 hv).1
      rwa [h.len] at this
    rw [fl_get h he hj, hv]
theorem fl_set3 (h : Elem cells 3) (es : List E) (i : Nat) (e : E) (v0 v1 v2 : Value) (hc : cells e = [v0, v1, v2]) (hi : i < es.length) : (((es.flatMap cells).set (i * 3) v0).set (i * 3 + 1) v1).set (i * 3 + 2) v2 = (es.set i e).flatMap cells := by
  induction es generalizing i with
  | nil => simp at hi
  | cons x es ih =>
    have hx := h.len x
    obtain ⟨a0, a1, a2, hx⟩ : ∃ a0 a1 a2, cells x = [a0, a1, a2] := by
      match hl : cells x, hx with
      | [a0, a1, a2], _ => exact ⟨a0, a1, a2, rfl⟩
    cases i with
    | zero => simp [hx, hc]
    | succ i =>
      simp at hi
      rw [List.set_cons_succ, List.flatMap_cons, List.flatMap_cons, ← ih i hi, hx]
      rw [show (i + 1) * 3 = i * 3 + 1 + 1 + 1 by omega]
      simp
end
/-- A predicate handed to slices: what it answers, and what it does on the way. St l F w: what is so behind the elements l, its own blocks being F. -/
structure DelBy {E : Type} (P : Program) (f : Nat) (caps : Array Value) (val : E → Value) (pr : E → Bool) (es : List E) (St : List E → List Nat → World → Prop) : Prop where
  fn : ∀ args w, (callFunc f args).run P w = .ok (.enter f args) w
  by' : ∀ l e F w1, l ++ [e] <+: es → St l F w1 → Calls P f (#[val e] ++ caps) w1 fun r w2 => r = .returned (.bool (pr e)) ∧ ∃ F', St (l ++ [e]) F' w2 ∧ Chg (· ∈ F) w1 w2 ∧ ∀ k ∈ F', k ∈ F ∨ w1.heap.size ≤ k
  keep : ∀ l F (S : Nat → Prop) w1 w2, St l F w1 → Chg S w1 w2 → (∀ k ∈ F, ¬ S k) → St l F w2
  lt : ∀ l F w, St l F w → ∀ k ∈ F, k < w.heap.size
/-- One that only reads. -/
theorem DelBy.pure {E : Type} {P : Program} {f : Nat} {caps : Array Value} {val : E → Value} {pr : E → Bool} (es : List E) (c : Nat) (v : Value) (t : TypeId) (fn : ∀ args w, (callFunc f args).run P w = .ok (.enter f args) w)
    (h : ∀ e w, w.heap[c]? = some (.cells #[v] t (0, 0)) → Calls P f (#[val e] ++ caps) w fun r w2 => r = .returned (.bool (pr e)) ∧ Below w.heap.size w w2) :
    DelBy P f caps val pr es (fun _ F w => F = [c] ∧ w.heap[c]? = some (.cells #[v] t (0, 0))) := by
  refine ⟨fn, ?_, ?_, ?_⟩
  · rintro l e F w1 _ ⟨rfl, hc⟩
    refine (h e w1 hc).mono ?_
    rintro r w2 ⟨rfl, hb⟩
    exact ⟨rfl, [c], ⟨rfl, (Chg.of_below hb (fun _ => False)).heap hc (fun h => h)⟩, Chg.of_below hb _, fun k hk => .inl hk⟩
  · rintro l F S w1 w2 ⟨rfl, hc⟩ hch hS
    exact ⟨rfl, hch.heap hc (hS c (by simp))⟩
  · rintro l F w ⟨rfl, hc⟩ k hk
    rw [List.mem_singleton] at hk
    subst hk
    exact heap_lt hc
end Go.Proofs.YtackmgmaippajaaGreat
-- part Last
namespace Go.Proofs.YtackmgmaippajaaGreat
set_option maxRecDepth 100000
open Go Go.RowKit

theorem oper_monoQ {P : Program} {o : Oper} {a : Act} {w : World} {K : Act → World → Prop} {Q Q' : Exit → Act → World → Prop} (h : ∀ e a w, e ≠ .normal → Q' e a w → Q e a w) (hh : o.wp P a w K Q') : o.wp P a w K Q := by
  have hL : LetsOut Q' → LetsOut Q := fun ⟨a, w, hq⟩ => ⟨a, w, h _ _ _ (by simp) hq⟩
  unfold Oper.wp at *
  generalize (execOp a.eval o).run P w = r at *
  cases r with
  | ok n w' =>
    cases n <;> simp only [Oper.upon] at hh ⊢ <;>
      first
        | exact hh
        | exact Calls.mono hh (fun e w'' he => by cases e <;> first | exact he | exact h _ _ _ (by simp) he | exact hL he)
  | halt x w' => cases x <;> simp only [Oper.upon] at hh ⊢ <;> first | exact hh | exact h _ _ _ (by simp) hh
theorem wpOp_monoQ {P : Program} {ops : Array Oper} {i : Nat} {a : Act} {w : World} {K : Act → World → Prop} {Q Q' : Exit → Act → World → Prop} (h : ∀ e a w, e ≠ .normal → Q' e a w → Q e a w) (hh : wpOp P ops Q' i K a w) : wpOp P ops Q i K a w := by
  unfold wpOp at *
  split
  · simpa [*] using hh
  · rename_i o ho
    simp only [ho] at hh
    split
    · rename_i hw
      simp only [hw, if_true] at hh
      rcases hh with hh | ⟨h1, a2, w2, h2⟩
      · exact .inl (oper_monoQ h hh)
      · exact .inr ⟨h1, a2, w2, h _ _ _ (by simp) h2⟩
    · rename_i hw
      simp only [hw] at hh
      exact hh
/-- The post of a region whose operation m is set aside. -/
def LastQ (P : Program) (ops : Array Oper) (m : Nat) (Q : Exit → Act → World → Prop) : Exit → Act → World → Prop := fun e a w => match e with
  | .normal => wpOp P ops Q m (fun a' w' => Q .normal a' w') a w
  | e => Q e a w
theorem LastQ.imp {P : Program} {ops : Array Oper} {m : Nat} {Q : Exit → Act → World → Prop} (e : Exit) (a : Act) (w : World) (he : e ≠ .normal) (h : LastQ P ops m Q e a w) : Q e a w := by
  cases e <;> first | exact h | exact absurd rfl he
theorem getD_up {l : Array Bool} {j : Nat} (h : l.getD j false = true) : l.getD j true = true := by
  simp only [Array.getD_eq_getD_getElem?] at *
  cases hj : l[j]? with
  | none => rw [hj] at h; cases h
  | some b => rw [hj] at h; exact h
theorem getD_in {l : Array Bool} {j : Nat} (hj : j < l.size) (h : l.getD j false = false) : l.getD j true = false := by
  simp only [Array.getD_eq_getD_getElem?] at *
  rw [Array.getElem?_eq_getElem hj] at *
  exact h
section
variable {P : Program} {ops : Array Oper} {Q : Exit → Act → World → Prop} {S : World → Prop} {md : Region.Mode} {m : Nat} {om : Oper}
theorem ready_some (hlt : ∀ (i : Nat) (o : Oper), ops[i]? = some o → ∀ e ∈ o.after, e.on < i) (listed : Array Bool) (hs : listed.size = ops.size) : ∀ (i : Nat), i < ops.size → listed.getD i true = false → ∃ j, j ∈ Region.ready md ops listed := by
  intro i
  induction i using Nat.strongRecOn with
  | ind i ih =>
    intro hi h
    by_cases hall : ∀ e ∈ (ops[i]).after, Region.binds md e = true → listed.getD e.on false = true
    · exact ⟨i, mem_ready.2 ⟨h, ops[i], Array.getElem?_eq_getElem hi, hall⟩⟩
    · simp only [Classical.not_forall] at hall
      obtain ⟨e, he, hb, hf⟩ := hall
      have h1 := hlt i _ (Array.getElem?_eq_getElem hi) e he
      exact ih e.on h1 (by omega) (getD_in (by omega) (by simpa using hf))
theorem ready_done (hm : ops[m]? = some om) (hw : ∀ j, j < ops.size → j ≠ m → ∃ e ∈ om.after, Region.binds md e = true ∧ (e.on = j ∨ ∃ o2, ops[e.on]? = some o2 ∧ ∃ e2 ∈ o2.after, Region.binds md e2 = true ∧ e2.on = j)) {listed : Array Bool} (hs : listed.size = ops.size) (hc : ∀ (i : Nat) (o : Oper), ops[i]? = some o → listed.getD i false = true → ∀ e ∈ o.after, Region.binds md e = true → listed.getD e.on false = true) (h : m ∈ Region.ready md ops listed) : Region.ready md ops (listed.setIfInBounds m true) = [] := by
  obtain ⟨_, o, ho, hall⟩ := mem_ready.1 h
  rw [hm] at ho
  cases ho
  refine List.eq_nil_iff_forall_not_mem.2 fun j hj => ?_
  obtain ⟨hj1, o, ho, _⟩ := mem_ready.1 hj
  have hjs := (Array.getElem?_eq_some_iff.1 ho).1
  by_cases hjm : j = m
  · subst hjm
    simp [Array.getD_eq_getD_getElem?, hs, hjs] at hj1
  · rw [getD_set_ne true (Ne.symm hjm)] at hj1
    obtain ⟨e, he, hb, hor⟩ := hw j hjs hjm
    have h1 := hall e he hb
    rcases hor with rfl | ⟨o2, ho2, e2, he2, hb2, rfl⟩
    · rw [getD_up h1] at hj1
      cases hj1
    · rw [getD_up (hc _ _ ho2 h1 e2 he2 hb2)] at hj1
      cases hj1
theorem wpAny_last (hm : ops[m]? = some om) (hw : ∀ j, j < ops.size → j ≠ m → ∃ e ∈ om.after, Region.binds md e = true ∧ (e.on = j ∨ ∃ o2, ops[e.on]? = some o2 ∧ ∃ e2 ∈ o2.after, Region.binds md e2 = true ∧ e2.on = j)) (hlt : ∀ (i : Nat) (o : Oper), ops[i]? = some o → ∀ e ∈ o.after, e.on < i) :
    ∀ (fuel : Nat) (listed : Array Bool) (a : Act) (w : World), listed.size = ops.size → listed.getD m true = false → (∀ (i : Nat) (o : Oper), ops[i]? = some o → listed.getD i false = true → ∀ e ∈ o.after, Region.binds md e = true → listed.getD e.on false = true) →
      wpAnyH P md ops (LastQ P ops m Q) S fuel (listed.setIfInBounds m true) a w → wpAny P md ops Q (fuel + 1) listed a w := by
  have hms := (Array.getElem?_eq_some_iff.1 hm).1
  have hne : ∀ listed : Array Bool, listed.size = ops.size → listed.getD m true = false → Region.ready md ops listed ≠ [] := fun listed hs h h0 => by
    obtain ⟨j, hj⟩ := ready_some (md := md) hlt listed hs m hms h
    rw [h0] at hj
    cases hj
  intro fuel
  induction fuel with
  | zero =>
    intro listed a w hs hmf hc h
    obtain ⟨h1, h2⟩ := h
    refine ⟨fun h0 => absurd h0 (hne listed hs hmf), fun i hi => ?_⟩
    by_cases him : i = m
    · subst him
      exact wpOp_mono (fun a w hq => ⟨h1, hq⟩) h2
    · have := ready_mono (i := m) hi him
      rw [h1] at this
      cases this
  | succ fuel ih =>
    intro listed a w hs hmf hc h
    obtain ⟨h1, h2⟩ := h
    refine ⟨fun h0 => absurd h0 (hne listed hs hmf), fun i hi => ?_⟩
    by_cases him : i = m
    · subst him
      have hd := ready_done hm hw hs hc hi
      exact wpOp_mono (fun a w hq => wpAny_done hd hq _) (h1 hd)
    · have h3 := wpOp_monoQ LastQ.imp (h2 i (ready_mono hi him))
      refine wpOp_mono (fun a w h4 => ih (listed.setIfInBounds i true) a w (by simp [hs]) (by rw [getD_set_ne true him]; exact hmf) (fun k o ho hk e he hb => ?_) ?_) h3
      · by_cases hki : i = k
        · subst hki
          obtain ⟨_, o', ho', hall⟩ := mem_ready.1 hi
          rw [ho] at ho'
          cases ho'
          exact getD_set_true (hall e he hb)
        · rw [getD_set_ne false hki] at hk
          exact getD_set_true (hc k o ho hk e he hb)
      · rw [Array.setIfInBounds_comm _ _ him]
        exact h4.2
/-- Operation m waits for all others, and each waits for earlier ones alone. -/
def lastOk (md : Region.Mode) (ops : Array Oper) (m : Nat) : Bool :=
  (List.range ops.size).all (fun j => j == m || ((ops[m]?).map (·.after.any fun e => Region.binds md e && (e.on == j || ((ops[e.on]?).map (·.after.any fun e2 => Region.binds md e2 && e2.on == j)).getD false))).getD false) &&
  (List.range ops.size).all (fun i => ((ops[i]?).map (·.after.all fun e => decide (e.on < i))).getD true)
/-- **A drawn region whose operation m comes last.** -/
theorem wp_region_last {id n : Nat} {a : Act} {w : World} (hmix : P.follows .mixedOrders = true) (hn : ops.size = n + 1) (hm : ops[m]? = some om) (hok : lastOk .any ops m = true) (hS : S w.drew)
    (h : S w.drew → wpAnyH P .any ops (LastQ P ops m Q) S n ((Array.replicate ops.size false).setIfInBounds m true) a w.drew) : (Code.region id ops true).wp P Q a w := by
  refine wp_region_any hmix ?_
  rw [hn]
  simp only [lastOk, Bool.and_eq_true, List.all_eq_true, List.mem_range] at hok
  have h' := h hS
  rw [hn] at h'
  have hms := (Array.getElem?_eq_some_iff.1 hm).1
  refine wpAny_last (S := S) hm (fun j hj hjm => ?_) (fun i o ho e he => ?_) n _ a w.drew (by simp [hn]) (by simp [Array.getD_eq_getD_getElem?, ← hn, hms]) (fun i o ho hi => by rw [Array.getD_eq_getD_getElem?, Array.getElem?_eq_getElem (by simp; have := (Array.getElem?_eq_some_iff.1 ho).1; omega)] at hi; simp at hi) h'
  · have := hok.1 j hj
    simp [hm, hjm] at this
    obtain ⟨i, hi, h1, h2⟩ := this
    refine ⟨om.after[i], Array.getElem_mem hi, h1, ?_⟩
    rcases h2 with h2 | h2
    · exact .inl h2
    · cases ho2 : ops[om.after[i].on]? with
      | none => rw [ho2] at h2; simp at h2
      | some o2 =>
        rw [ho2] at h2
        simp at h2
        obtain ⟨i2, hi2, h3, h4⟩ := h2
        exact .inr ⟨o2, rfl, o2.after[i2], Array.getElem_mem hi2, h3, h4⟩
  · have := hok.2 i (Array.getElem?_eq_some_iff.1 ho).1
    simp [ho] at this
    obtain ⟨i1, hi1, rfl⟩ := Array.mem_iff_getElem.1 he
    exact this i1 hi1
/-- The operation that was set aside. -/
theorem last_do {o : Oper} {a : Act} {w : World} (ho : ops[m]? = some o)
    (h : ∀ K' : Act → World → Prop, Shut (∀ a w, Q .normal a w → K' a w) → if Region.wanted o (yielded ops a.tmps) = true then Oper.wp P o a w K' Q else K' (a.put o.dst undef) w) : LastQ P ops m Q .normal a w :=
  wpOp_step ho (fun K' hK => h K' hK)
end
end Go.Proofs.YtackmgmaippajaaGreat
