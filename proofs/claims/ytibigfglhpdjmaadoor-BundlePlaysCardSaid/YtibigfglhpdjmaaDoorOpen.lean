/-
  HOW PLAIN DATA THAT COMES IN IS READ: numbers, bools, strings, slices, structs, arrays, one within the other. Over whatever program.
-/
import Derived.ProofKit
import Derived.Test.YtibigfglhpdjmaaDoorKit
namespace Go.Proofs.YtibigfglhpdjmaaDoor
open Go Go.RowKit Go.WideShapes

/-- The cells 'cs' read as a thing of type t. -/
def Rd (P : Program) (w : World) (t : TypeId) (cs : List Value) : Prop :=
  ∃ (H : Type) (enc : TypeId × Value → H) (fuel : Nat) (x : DataW H × List MemPlace), DataW.trod enc P w 0 (fun _ => true) true fuel t cs = some x
theorem Rd.of {H : Type} {enc : TypeId × Value → H} {P : Program} {w : World} {t : TypeId} {v : Value} {d : DataW H} {ps : List MemPlace}
    (h : DataW.Trod enc P w 0 (fun _ => true) true t v d ps) : Rd P w t v.cells.toList :=
  let ⟨fuel, hf⟩ := h; ⟨H, enc, fuel, _, hf⟩
section
variable {P : Program} {w : World} {t : TypeId} {cs : List Value}
theorem Rd.int {k : IntKind} (hu : P.underlying t = some (.int k)) (h : Rd P w t cs) : ∃ n : Int, cs = [.int k n] ∧ (Lit.int k n).wf = true := by
  obtain ⟨H, enc, fuel, x, hx⟩ := h
  obtain ⟨n, h1, h2, h3⟩ := DataW.trod_int hu hx
  exact ⟨n, h1, h3⟩
theorem Rd.bool (hu : P.underlying t = some .bool) (h : Rd P w t cs) : ∃ b : Bool, cs = [.bool b] := by
  obtain ⟨H, enc, fuel, x, hx⟩ := h
  obtain ⟨n, h1, h2⟩ := DataW.trod_bool hu hx
  exact ⟨n, h1⟩
theorem Rd.string (hu : P.underlying t = some .string) (h : Rd P w t cs) : ∃ s : ByteArray, cs = [.string s] ∧ s.size ≤ maxLen := by
  obtain ⟨H, enc, fuel, x, hx⟩ := h
  cases fuel with
  | zero => simp [DataW.trod] at hx
  | succ n =>
    simp only [DataW.trod, hu] at hx
    split at hx <;> simp_all
/-- A slice: nil, or 'cap' elements one behind the other, each of which reads as a thing of the element's type. -/
theorem Rd.slice {e : TypeId} (hu : P.underlying t = some (.slice e)) (h : Rd P w t cs) :
    ∃ ao len cap, cs = [.slice ao len cap] ∧ len ≤ cap ∧ cap ≤ maxLen ∧ (ao = none → cap = 0) ∧
      ∀ a, ao = some a → ∀ i, i < cap → ∃ es, w.cells? 0 (a.add (i * P.cellsOf e)) (P.cellsOf e) = some es ∧ Rd P w e es := by
  obtain ⟨H, enc, fuel, x, hx⟩ := h
  rcases DataW.trod_slice hu hx with ⟨h0, _⟩ | ⟨a, len, cap, elems, rest, n, rfl, rfl, rfl, hb, hl, hm, hlen, hel, hsp, hns⟩
  · exact ⟨none, 0, 0, h0, Nat.le_refl _, by simp, fun _ => rfl, fun a ha => by cases ha⟩
  · refine ⟨some a, len, cap, rfl, hl, hm, by simp, ?_⟩
    rintro a' ⟨⟩ i hi
    obtain ⟨hr1, hr2⟩ := hsp rfl
    have key : ∃ y, (w.cells? 0 (a.add (i * P.cellsOf e)) (P.cellsOf e)).bind (DataW.trod enc P w 0 (fun _ => true) true n e) = some y := by
      by_cases hil : i < len
      · rw [hel i hil]; exact ⟨elems[i], List.getElem?_eq_getElem (by omega)⟩
      · have := hr2 (i - len) (by omega)
        rw [show len + (i - len) = i by omega] at this
        rw [this]; exact ⟨rest[i - len], List.getElem?_eq_getElem (by omega)⟩
    obtain ⟨y, hy⟩ := key
    cases hc : w.cells? 0 (a.add (i * P.cellsOf e)) (P.cellsOf e) with
    | none => rw [hc] at hy; simp at hy
    | some es => rw [hc] at hy; exact ⟨es, rfl, H, enc, n, y, by simpa using hy⟩
theorem mapM_each {α β : Type} {f : α → Option β} : ∀ {l : List α} {ys : List β}, l.mapM f = some ys → ∀ x ∈ l, ∃ y, f x = some y
  | [], _, _, x, hx => by cases hx
  | a :: l, ys, h, x, hx => by
    rw [List.mapM_cons] at h
    cases ha : f a with
    | none => rw [ha] at h; simp at h
    | some y =>
      rw [ha] at h
      cases hl : l.mapM f with
      | none => rw [hl] at h; simp at h
      | some zs =>
        rcases List.mem_cons.1 hx with rfl | hm
        · exact ⟨y, ha⟩
        · exact mapM_each hl x hm
theorem Rd.struct {fs : Array Field} (hu : P.underlying t = some (.struct fs)) (h : Rd P w t cs) :
    cs.length = P.cellsOf t ∧ ∀ f ∈ fs.toList, Rd P w f.type ((cs.drop f.offset).take (P.cellsOf f.type)) := by
  obtain ⟨H, enc, fuel, x, hx⟩ := h
  cases fuel with
  | zero => simp [DataW.trod] at hx
  | succ n =>
    simp only [DataW.trod, hu] at hx
    split at hx
    · rename_i hlen
      refine ⟨hlen, fun f hf => ?_⟩
      cases hm : fs.toList.mapM fun f => DataW.trod enc P w 0 (fun _ => true) true n f.type ((cs.drop f.offset).take (P.cellsOf f.type)) with
      | none => rw [hm] at hx; simp at hx
      | some ys => obtain ⟨y, hy⟩ := mapM_each hm f hf; exact ⟨H, enc, n, y, hy⟩
    · cases hx
theorem Rd.field {fs : Array Field} (hu : P.underlying t = some (.struct fs)) (h : Rd P w t cs) {f : Field} (i : Nat) (hf : fs[i]? = some f) {n : Nat} (hn : P.cellsOf f.type = n) : Rd P w f.type ((cs.drop f.offset).take n) := by
  subst hn
  exact (h.struct hu).2 f (Array.mem_toList_iff.2 (Array.mem_of_getElem? hf))
theorem Rd.array {m : Nat} {e : TypeId} (hu : P.underlying t = some (.array m e)) (h : Rd P w t cs) :
    cs.length = P.cellsOf t ∧ ∀ i, i < m → Rd P w e ((cs.drop (i * P.cellsOf e)).take (P.cellsOf e)) := by
  obtain ⟨H, enc, fuel, x, hx⟩ := h
  cases fuel with
  | zero => simp [DataW.trod] at hx
  | succ n =>
    simp only [DataW.trod, hu] at hx
    split at hx
    · rename_i hlen
      refine ⟨hlen, fun i hi => ?_⟩
      cases hm : (List.range m).mapM fun i => DataW.trod enc P w 0 (fun _ => true) true n e ((cs.drop (i * P.cellsOf e)).take (P.cellsOf e)) with
      | none => rw [hm] at hx; simp at hx
      | some ys => obtain ⟨y, hy⟩ := mapM_each hm i (by simpa using hi); exact ⟨H, enc, n, y, hy⟩
    · cases hx
end
/-- Elements 'xs', each 'size' cells, one behind the other from 'ao' on; 'Is x es': the cells es are x. -/
def RowOf {α : Type} (w : World) (ao : Option Addr) (size : Nat) (Is : α → List Value → Prop) (xs : List α) : Prop :=
  0 < xs.length → ∃ b off, ao = some ⟨b, off, none⟩ ∧ ∀ i (h : i < xs.length), ∃ es, es.length = size ∧ Is xs[i] es ∧ ∀ j v, es[j]? = some v → w.cell? ⟨b, off + i * size + j, none⟩ = some v
theorem list_choose {α : Type} {p : Nat → α → Prop} : ∀ n, (∀ i, i < n → ∃ x, p i x) → ∃ xs : List α, xs.length = n ∧ ∀ i (h : i < xs.length), p i xs[i]
  | 0, _ => ⟨[], rfl, fun i h => by simp at h⟩
  | n + 1, h => by
    obtain ⟨xs, hl, hx⟩ := list_choose n (fun i hi => h i (by omega))
    obtain ⟨y, hy⟩ := h n (by omega)
    refine ⟨xs ++ [y], by simp [hl], fun i hi => ?_⟩
    by_cases hin : i < xs.length
    · rw [List.getElem_append_left hin]; exact hx i hin
    · have : i = n := by simp at hi; omega
      subst this
      rw [List.getElem_append_right (by omega)]
      simpa [hl] using hy
theorem cells?_at {w : World} {b o : Nat} {s : Option Nat} {n : Nat} {es : List Value} (h : w.cells? 0 ⟨b, o, s⟩ n = some es) (hn : 0 < n) :
    s = none ∧ es.length = n ∧ ∀ j v, es[j]? = some v → w.cell? ⟨b, o + j, none⟩ = some v := by
  obtain ⟨_, hl, hc⟩ := World.cells?_some h
  have hs : s = none := by
    have h0 := hc 0 hn
    cases s with
    | none => rfl
    | some q =>
      have e : (⟨b, o, some q⟩ : Addr).add 0 = ⟨b, o, some q⟩ := rfl
      rw [e] at h0
      have hsome : es[0]? = some es[0] := List.getElem?_eq_getElem (by omega)
      rw [hsome] at h0
      simp only [World.cell?] at h0
      split at h0 <;> simp at h0
  subst hs
  refine ⟨rfl, hl, fun j v hj => ?_⟩
  have hjl : j < n := by
    rcases Nat.lt_or_ge j es.length with h | h
    · omega
    · rw [List.getElem?_eq_none h] at hj; cases hj
  have := hc j hjl
  rw [hj] at this
  rw [← this]
  congr 1
  unfold Addr.add
  split <;> simp_all
theorem Rd.slice_of {α : Type} {P : Program} {w : World} {t e : TypeId} {cs : List Value} (hu : P.underlying t = some (.slice e)) {size : Nat} (hs : P.cellsOf e = size) (h0 : 0 < size)
    (Is : α → List Value → Prop) (hI : ∀ es, Rd P w e es → ∃ x, Is x es) (h : Rd P w t cs) :
    ∃ ao xs cap, cs = [.slice ao (List.length xs) cap] ∧ xs.length ≤ cap ∧ cap ≤ maxLen ∧ (ao = none → cap = 0) ∧ RowOf w ao size Is xs := by
  obtain ⟨ao, len, cap, rfl, hl, hm, hn, hc⟩ := h.slice hu
  cases ao with
  | none =>
    have := hn rfl
    obtain rfl : len = 0 := by omega
    exact ⟨none, [], cap, rfl, by simp, hm, hn, fun h => by simp at h⟩
  | some a =>
    obtain ⟨b, off, s⟩ := a
    have each : ∀ i, i < len → ∃ x : α, (s = none ∧ ∃ es, es.length = size ∧ Is x es ∧ ∀ j v, es[j]? = some v → w.cell? ⟨b, off + i * size + j, none⟩ = some v) := by
      intro i hi
      obtain ⟨es, he, hr⟩ := hc _ rfl i (by omega)
      rw [hs] at he
      have h00 : s = none := by
        obtain ⟨es0, he0, _⟩ := hc _ rfl 0 (by omega)
        rw [hs, Nat.zero_mul] at he0
        exact (cells?_at he0 h0).1
      subst h00
      have e1 : (⟨b, off, none⟩ : Addr).add (i * size) = ⟨b, off + i * size, none⟩ := by unfold Addr.add; split <;> simp_all
      rw [e1] at he
      obtain ⟨_, h2, h3⟩ := cells?_at he h0
      obtain ⟨x, hx⟩ := hI es hr
      exact ⟨x, rfl, es, h2, hx, h3⟩
    obtain ⟨xs, hxl, hx⟩ := list_choose len each
    refine ⟨some ⟨b, off, s⟩, xs, cap, by rw [hxl], by omega, hm, hn, fun hpos => ?_⟩
    obtain ⟨rfl, _⟩ := hx 0 hpos
    exact ⟨b, off, rfl, fun i hi => (hx i hi).2⟩
/-- Bytes that come in. -/
theorem Rd.bytes {P : Program} {w : World} {t e : TypeId} {cs : List Value} (hu : P.underlying t = some (.slice e)) (he : P.underlying e = some (.int .u8)) (hs : P.cellsOf e = 1) (h : Rd P w t cs) :
    ∃ ao bs cap, cs = [.slice ao (List.length bs) cap] ∧ bs.length ≤ cap ∧ cap ≤ maxLen ∧ (ao = none → cap = 0) ∧ Bts w ao bs := by
  obtain ⟨ao, bs, cap, h1, h2, h3, h4, h5⟩ := h.slice_of hu hs (by decide) (fun (x : UInt8) es => es = [cb x]) (by
    intro es hr
    obtain ⟨n, rfl, hw⟩ := hr.int he
    simp [Lit.wf, IntKind.min, IntKind.max, IntKind.signed, IntKind.bits] at hw
    exact ⟨UInt8.ofNat n.toNat, by simp only [cb, UInt8.toNat_ofNat']; rw [Nat.mod_eq_of_lt (by omega)]; congr 2; omega⟩)
  refine ⟨ao, bs, cap, h1, h2, h3, h4, fun hne => ?_⟩
  obtain ⟨b, off, rfl, hc⟩ := h5 (by cases bs <;> simp_all)
  refine ⟨b, off, rfl, fun i v hv => ?_⟩
  rw [List.getElem?_map] at hv
  have hi : i < bs.length := by
    rcases Nat.lt_or_ge i bs.length with h | h
    · exact h
    · rw [List.getElem?_eq_none h] at hv; cases hv
  obtain ⟨es, _, rfl, hj⟩ := hc i hi
  rw [List.getElem?_eq_getElem hi] at hv
  simp at hv
  subst hv
  simpa using hj 0 _ rfl
theorem Rd.u8 {P : Program} {w : World} {t : TypeId} {cs : List Value} (hu : P.underlying t = some (.int .u8)) (h : Rd P w t cs) : ∃ c : UInt8, cs = [.int .u8 (c.toNat : Int)] := by
  obtain ⟨n, rfl, hw⟩ := h.int hu
  simp [Lit.wf, IntKind.min, IntKind.max, IntKind.signed, IntKind.bits] at hw
  exact ⟨UInt8.ofNat n.toNat, by simp only [UInt8.toNat_ofNat']; rw [Nat.mod_eq_of_lt (by omega)]; congr 2; omega⟩
theorem Rd.i64 {P : Program} {w : World} {t : TypeId} {cs : List Value} (hu : P.underlying t = some (.int .i64)) (h : Rd P w t cs) : ∃ n : Int, cs = [.int .i64 n] ∧ -9223372036854775808 ≤ n ∧ n ≤ 9223372036854775807 := by
  obtain ⟨n, rfl, hw⟩ := h.int hu
  simp [Lit.wf, IntKind.min, IntKind.max, IntKind.signed, IntKind.bits] at hw
  exact ⟨n, rfl, hw⟩
theorem Rd.u64 {P : Program} {w : World} {t : TypeId} {cs : List Value} (hu : P.underlying t = some (.int .u64)) (h : Rd P w t cs) : ∃ n : Nat, cs = [.int .u64 (n : Int)] ∧ n < 18446744073709551616 := by
  obtain ⟨n, rfl, hw⟩ := h.int hu
  simp [Lit.wf, IntKind.min, IntKind.max, IntKind.signed, IntKind.bits] at hw
  exact ⟨n.toNat, by congr 2; omega, by omega⟩
/-! ### lists of known length -/
theorem list1 {α : Type} {l : List α} (h : l.length = 1) : ∃ a, l = [a] := by match l, h with | [a], _ => exact ⟨a, rfl⟩
theorem list2 {α : Type} {l : List α} (h : l.length = 2) : ∃ a b, l = [a, b] := by match l, h with | [a, b], _ => exact ⟨a, b, rfl⟩
theorem list3 {α : Type} {l : List α} (h : l.length = 3) : ∃ a b c, l = [a, b, c] := by match l, h with | [a, b, c], _ => exact ⟨a, b, c, rfl⟩
theorem list4 {α : Type} {l : List α} (h : l.length = 4) : ∃ a b c d, l = [a, b, c, d] := by match l, h with | [a, b, c, d], _ => exact ⟨a, b, c, d, rfl⟩
theorem list5 {α : Type} {l : List α} (h : l.length = 5) : ∃ a b c d e, l = [a, b, c, d, e] := by match l, h with | [a, b, c, d, e], _ => exact ⟨a, b, c, d, e, rfl⟩
theorem list6 {α : Type} {l : List α} (h : l.length = 6) : ∃ a b c d e f, l = [a, b, c, d, e, f] := by match l, h with | [a, b, c, d, e, f], _ => exact ⟨a, b, c, d, e, f, rfl⟩
/-! ### arguments -/
theorem in_struct {P : Program} {w : World} {r : Reach} {base : Nat} {t : TypeId} {fs : Array Field} {v : Value} (hu : P.underlying t = some (.struct fs)) (hk : Value.okWide P w r base t v) : ∃ cs : List Value, v = .agg cs.toArray ∧ v.cells.toList = cs := by
  obtain ⟨cs, rfl, _⟩ := okWide_struct hu hk
  exact ⟨cs.toList, by simp, by simp [Value.cells]⟩
theorem in_bytes {P : Program} {w : World} {r : Reach} {base : Nat} {t e : TypeId} {v : Value} (hu : P.underlying t = some (.slice e)) (he : P.underlying e = some (.int .u8)) (hs : P.cellsOf e = 1)
    (hk : Value.okWide P w r base t v) (h : Rd P w t v.cells.toList) : ∃ ao bs cap, v = .slice ao (List.length bs) cap ∧ Bts w ao bs := by
  obtain ⟨a0, l0, c0, rfl⟩ := okWide_slice hu hk
  obtain ⟨ao, bs, cap, hcs, _, _, _, hb⟩ := h.bytes hu he hs
  simp [Value.cells] at hcs
  obtain ⟨rfl, rfl, rfl⟩ := hcs
  exact ⟨_, bs, _, rfl, hb⟩
theorem in_bytes' {P : Program} {w : World} {r : Reach} {base : Nat} {t e : TypeId} {v : Value} (hu : P.underlying t = some (.slice e)) (he : P.underlying e = some (.int .u8)) (hs : P.cellsOf e = 1)
    (hk : Value.okWide P w r base t v) (h : Rd P w t v.cells.toList) : ∃ ao bs cap, v = .slice ao (List.length bs) cap ∧ Bts w ao bs ∧ bs.length ≤ cap := by
  obtain ⟨a0, l0, c0, rfl⟩ := okWide_slice hu hk
  obtain ⟨ao, bs, cap, hcs, hc, _, _, hb⟩ := h.bytes hu he hs
  simp [Value.cells] at hcs
  obtain ⟨rfl, rfl, rfl⟩ := hcs
  exact ⟨_, bs, _, rfl, hb, hc⟩
theorem in_bytesC {P : Program} {w : World} {r : Reach} {base : Nat} {t e : TypeId} {v : Value} (hu : P.underlying t = some (.slice e)) (he : P.underlying e = some (.int .u8)) (hs : P.cellsOf e = 1)
    (hk : Value.okWide P w r base t v) (h : Rd P w t v.cells.toList) : ∃ ao bs cap, v = .slice ao (List.length bs) cap ∧ Bts w ao bs ∧ bs.length ≤ cap ∧ cap ≤ maxLen := by
  obtain ⟨a0, l0, c0, rfl⟩ := okWide_slice hu hk
  obtain ⟨ao, bs, cap, hcs, hc, hm, _, hb⟩ := h.bytes hu he hs
  simp [Value.cells] at hcs
  obtain ⟨rfl, rfl, rfl⟩ := hcs
  exact ⟨_, bs, _, rfl, hb, hc, hm⟩
theorem in_slice {α : Type} {P : Program} {w : World} {r : Reach} {base : Nat} {t e : TypeId} {v : Value} (hu : P.underlying t = some (.slice e)) {size : Nat} (hs : P.cellsOf e = size) (h0 : 0 < size)
    (Is : α → List Value → Prop) (hI : ∀ es, Rd P w e es → ∃ x, Is x es) (hk : Value.okWide P w r base t v) (h : Rd P w t v.cells.toList) :
    ∃ ao xs cap, v = .slice ao (List.length xs) cap ∧ RowOf w ao size Is xs ∧ xs.length ≤ cap ∧ cap ≤ maxLen := by
  obtain ⟨a0, l0, c0, rfl⟩ := okWide_slice hu hk
  obtain ⟨ao, xs, cap, hcs, hl, hm, _, hb⟩ := h.slice_of hu hs h0 Is hI
  simp [Value.cells] at hcs
  obtain ⟨rfl, rfl, rfl⟩ := hcs
  exact ⟨_, xs, _, rfl, hb, hl, hm⟩
theorem in_int {P : Program} {w : World} {r : Reach} {base : Nat} {t : TypeId} {k : IntKind} {v : Value} (hu : P.underlying t = some (.int k)) (hk : Value.okWide P w r base t v) (h : Rd P w t v.cells.toList) :
    ∃ n : Int, v = .int k n ∧ k.min ≤ n ∧ n ≤ k.max := by
  obtain ⟨n, rfl⟩ := okWide_int hu hk
  obtain ⟨m, hcs, hw⟩ := h.int hu
  simp [Value.cells] at hcs
  subst hcs
  simp [Lit.wf] at hw
  exact ⟨_, rfl, hw⟩
theorem in_bool {P : Program} {w : World} {r : Reach} {base : Nat} {t : TypeId} {v : Value} (hu : P.underlying t = some .bool) (hk : Value.okWide P w r base t v) : ∃ b : Bool, v = .bool b := okWide_bool hu hk
theorem in_i64 {P : Program} {w : World} {r : Reach} {base : Nat} {t : TypeId} {v : Value} (hu : P.underlying t = some (.int .i64)) (hk : Value.okWide P w r base t v) (h : Rd P w t v.cells.toList) :
    ∃ n : Int, v = .int .i64 n ∧ -9223372036854775808 ≤ n ∧ n ≤ 9223372036854775807 := by
  obtain ⟨n, e, h1, h2⟩ := in_int hu hk h
  exact ⟨n, e, by simpa [IntKind.min, IntKind.signed, IntKind.bits] using h1, by simpa [IntKind.max, IntKind.signed, IntKind.bits] using h2⟩
theorem in_u32 {P : Program} {w : World} {r : Reach} {base : Nat} {t : TypeId} {v : Value} (hu : P.underlying t = some (.int .u32)) (hk : Value.okWide P w r base t v) (h : Rd P w t v.cells.toList) :
    ∃ n : BitVec 32, v = .int .u32 (n.toNat : Int) := by
  obtain ⟨n, rfl, h1, h2⟩ := in_int hu hk h
  simp [IntKind.min, IntKind.max, IntKind.signed, IntKind.bits] at h1 h2
  refine ⟨BitVec.ofNat 32 n.toNat, ?_⟩
  rw [BitVec.toNat_ofNat, Nat.mod_eq_of_lt (by omega)]
  congr 1; omega
theorem in_u8 {P : Program} {w : World} {r : Reach} {base : Nat} {t : TypeId} {v : Value} (hu : P.underlying t = some (.int .u8)) (hk : Value.okWide P w r base t v) (h : Rd P w t v.cells.toList) :
    ∃ n : UInt8, v = .int .u8 (n.toNat : Int) := by
  obtain ⟨n, rfl⟩ := okWide_int hu hk
  obtain ⟨c, hc⟩ := h.u8 hu
  simp [Value.cells] at hc
  exact ⟨c, by rw [hc]⟩
theorem in_u16 {P : Program} {w : World} {r : Reach} {base : Nat} {t : TypeId} {v : Value} (hu : P.underlying t = some (.int .u16)) (hk : Value.okWide P w r base t v) (h : Rd P w t v.cells.toList) :
    ∃ n : Nat, v = .int .u16 (n : Int) ∧ n < 65536 := by
  obtain ⟨n, rfl, h1, h2⟩ := in_int hu hk h
  simp [IntKind.min, IntKind.max, IntKind.signed, IntKind.bits] at h1 h2
  exact ⟨n.toNat, by congr 1; omega, by omega⟩
theorem Rd.u16 {P : Program} {w : World} {t : TypeId} {cs : List Value} (hu : P.underlying t = some (.int .u16)) (h : Rd P w t cs) : ∃ n : Nat, cs = [.int .u16 (n : Int)] ∧ n < 65536 := by
  obtain ⟨n, rfl, hw⟩ := h.int hu
  simp [Lit.wf, IntKind.min, IntKind.max, IntKind.signed, IntKind.bits] at hw
  exact ⟨n.toNat, by congr 2; omega, by omega⟩
end Go.Proofs.YtibigfglhpdjmaaDoor
