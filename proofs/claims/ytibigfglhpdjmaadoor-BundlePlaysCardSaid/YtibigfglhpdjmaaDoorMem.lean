/-
  MEMORY OF THE CALL's OWN: slices that are appended to and written; what a call may turn, by the numbers of blocks. Over whatever program.
-/
import Derived.Test.YtibigfglhpdjmaaDoorKit
import Derived.ArgAppend
import Derived.Deep.Quiet
namespace Go.Proofs.YtibigfglhpdjmaaDoor
open Go Go.RowKit

/-! ### what has turned -/
/-- Of the blocks that were there none has turned but those in S. -/
structure Chg (S : Nat → Prop) (w w' : World) : Prop where
  os : w'.os = w.os
  tape : w'.tape = w.tape
  output : w'.output = w.output
  size : w.heap.size ≤ w'.heap.size
  block : ∀ k, k < w.heap.size → ¬ S k → w'.heap[k]? = w.heap[k]?
theorem Chg.refl (S : Nat → Prop) (w : World) : Chg S w w := ⟨rfl, rfl, rfl, Nat.le_refl _, fun _ _ _ => rfl⟩
theorem Chg.mono {S S' : Nat → Prop} {w w' : World} (h : Chg S w w') (hs : ∀ k, k < w.heap.size → S k → S' k) : Chg S' w w' :=
  ⟨h.os, h.tape, h.output, h.size, fun k hk hn => h.block k hk fun hS => hn (hs k hk hS)⟩
theorem Chg.trans {S : Nat → Prop} {a b c : World} (h : Chg S a b) {S' : Nat → Prop} (k : Chg S' b c) (hs : ∀ i, i < a.heap.size → S' i → S i) : Chg S a c :=
  ⟨k.os.trans h.os, k.tape.trans h.tape, k.output.trans h.output, Nat.le_trans h.size k.size,
    fun i hi hn => (k.block i (Nat.lt_of_lt_of_le hi h.size) fun hS => hn (hs i hi hS)).trans (h.block i hi hn)⟩
theorem Chg.drew {S : Nat → Prop} {a w : World} (h : Chg S a w) : Chg S a w.drew := ⟨h.os, h.tape, h.output, h.size, h.block⟩
theorem Chg.drewN {S : Nat → Prop} {a w : World} (h : Chg S a w) (n : Nat) : Chg S a (w.drewN n) := ⟨h.os, h.tape, h.output, h.size, h.block⟩
theorem Chg.alloc {S : Nat → Prop} {a w : World} (h : Chg S a w) (o : Obj) : Chg S a (w.alloc o) :=
  h.trans (S' := fun _ => False) ⟨rfl, rfl, rfl, by simp, fun k hk _ => Below.heap_alloc _ _ _ hk⟩ fun _ _ h => h.elim
theorem Chg.setCell {S : Nat → Prop} {a w : World} (h : Chg S a w) {p : Addr} (hp : p.block < a.heap.size → S p.block) (u : Value) : Chg S a (w.setCell p u) :=
  h.trans (S' := fun k => k = p.block) ⟨rfl, rfl, rfl, by simp [World.setCell], fun k _ hk => Below.heap_setCell _ _ _ _ hk⟩ fun i hi e => by subst e; exact hp hi
theorem Chg.set {S : Nat → Prop} {a w : World} (h : Chg S a w) {p : Nat} (hp : S p) (i : Nat) (u : Value) : Chg S a (w.setCell ⟨p, i, none⟩ u) := h.setCell (fun _ => hp) u
theorem Chg.one (w : World) (p i : Nat) (u : Value) : Chg (· = p) w (w.setCell ⟨p, i, none⟩ u) := (Chg.refl (· = p) w).set (p := p) rfl i u
theorem Chg.to {S S' : Nat → Prop} {w w' : World} (h : Chg S w w') (hs : ∀ k, S k → S' k) : Chg S' w w' := h.mono fun k _ => hs k
theorem Chg.undrewN {S : Nat → Prop} {w w' : World} {n : Nat} (h : Chg S (w.drewN n) w') : Chg S w w' := ⟨h.os, h.tape, h.output, h.size, h.block⟩
theorem Chg.undrew {S : Nat → Prop} {w w' : World} (h : Chg S w.drew w') : Chg S w w' := ⟨h.os, h.tape, h.output, h.size, h.block⟩
theorem Chg.of_below {w w' : World} (h : Below w.heap.size w w') (S : Nat → Prop) : Chg S w w' := ⟨h.os, h.tape, h.output, h.size, fun k hk _ => h.block k hk⟩
theorem Chg.below {S : Nat → Prop} {w w' : World} (h : Chg S w w') {B : Nat} (hB : B ≤ w.heap.size) (hs : ∀ k, S k → B ≤ k) : Below B w w' :=
  ⟨h.os, h.tape, h.output, h.size, fun k hk => h.block k (by omega) fun hS => by have := hs k hS; omega⟩
theorem Chg.cell {S : Nat → Prop} {w w' : World} (h : Chg S w w') {p : Addr} {v : Value} (hv : w.cell? p = some v) (hS : ¬ S p.block) : w'.cell? p = some v :=
  (World.cell?_of_block (h.block p.block (World.block_lt_of_cell? w p hv) hS)).trans hv
theorem Chg.heap {S : Nat → Prop} {w w' : World} (h : Chg S w w') {k : Nat} {o : Obj} (hv : w.heap[k]? = some o) (hS : ¬ S k) : w'.heap[k]? = some o :=
  (h.block k (Array.getElem?_eq_some_iff.1 hv).1 hS).trans hv
theorem Chg.row {S : Nat → Prop} {w w' : World} (h : Chg S w w') {ao : Option Addr} {cs : List Value} (hr : Row w ao cs) (hS : ∀ a, ao = some a → ¬ S a.block) : Row w' ao cs := by
  intro hne
  obtain ⟨b, off, e, hc⟩ := hr hne
  exact ⟨b, off, e, fun i v hv => h.cell (hc i v hv) (show ¬ S b from hS _ e)⟩

theorem below_drewN {B : Nat} {a w : World} (h : Below B a w) (n : Nat) : Below B a (w.drewN n) := ⟨h.os, h.tape, h.output, h.size, h.block⟩
theorem Row.drewN {w : World} {ao : Option Addr} {cs : List Value} (h : Row w ao cs) (m : Nat) : Row (w.drewN m) ao cs := h
theorem Bts.drewN {w : World} {ao : Option Addr} {bs : List UInt8} (h : Bts w ao bs) (m : Nat) : Bts (w.drewN m) ao bs := h
theorem Row.drew {w : World} {ao : Option Addr} {cs : List Value} (h : Row w ao cs) : Row w.drew ao cs := h
theorem Bts.drew {w : World} {ao : Option Addr} {bs : List UInt8} (h : Bts w ao bs) : Bts w.drew ao bs := h
/-! ### a block that is known whole -/
theorem heap_cell {w : World} {p : Nat} {cs : Array Value} {t : TypeId} {fz : Nat × Nat} (h : w.heap[p]? = some (.cells cs t fz)) (i : Nat) : w.cell? ⟨p, i, none⟩ = cs[i]? := by simp [World.cell?, h]
theorem heap_frozen {w : World} {p : Nat} {cs : Array Value} {t : TypeId} (h : w.heap[p]? = some (.cells cs t (0, 0))) (i : Nat) : w.frozen? ⟨p, i, none⟩ = false := by simp [World.frozen?, h]
theorem heap_set {w : World} {p : Nat} {cs : Array Value} {t : TypeId} {fz : Nat × Nat} (h : w.heap[p]? = some (.cells cs t fz)) (i : Nat) (v : Value) : (w.setCell ⟨p, i, none⟩ v).heap[p]? = some (.cells (cs.setIfInBounds i v) t fz) := by
  simp [World.setCell, Array.getElem?_modify, h]
theorem heap_lt {w : World} {p : Nat} {o : Obj} (h : w.heap[p]? = some o) : p < w.heap.size := (Array.getElem?_eq_some_iff.1 h).1
theorem heap_far {w : World} {a : Addr} {k : Nat} {o : Obj} (h : w.heap[k]? = some o) (hk : k ≠ a.block) (u : Value) : (w.setCell a u).heap[k]? = some o := (Below.heap_setCell w a u k hk).trans h
theorem heap_new {w : World} {o : Obj} {k : Nat} {q : Obj} (h : w.heap[k]? = some q) : (w.alloc o).heap[k]? = some q := (Below.heap_alloc w o k (heap_lt h)).trans h
/-! ### a slice that is owned -/
/-- The slice of address ao, length n, capacity cap holds the cells cs, and its cells up to its capacity may be written. -/
structure Own (w : World) (size : Nat) (ao : Option Addr) (n cap : Nat) (cs : List Value) : Prop where
  len : cs.length = n * size
  le : n ≤ cap
  max : cap ≤ maxLen
  nil : ao = none → cap = 0
  at_ : ∀ a, ao = some a → a.spot = none ∧ a.block < w.heap.size ∧
    (∀ j, j < cap * size → (w.cell? ⟨a.block, a.off + j, none⟩).isSome = true ∧ w.frozen? ⟨a.block, a.off + j, none⟩ = false) ∧
    ∀ i v, cs[i]? = some v → w.cell? ⟨a.block, a.off + i, none⟩ = some v
theorem Own.nil' (w : World) (size : Nat) : Own w size none 0 0 [] := ⟨by simp, Nat.le_refl _, by simp, fun _ => rfl, fun a h => by cases h⟩
theorem Own.row {w : World} {size : Nat} {ao : Option Addr} {n cap : Nat} {cs : List Value} (h : Own w size ao n cap cs) : Row w ao cs := by
  intro hne
  cases ao with
  | none =>
    have h1 := h.nil rfl; have h2 := h.le; have h3 := h.len
    obtain rfl : n = 0 := by omega
    exact absurd (List.eq_nil_of_length_eq_zero (by simpa using h3)) hne
  | some a =>
    obtain ⟨h1, _, _, h3⟩ := h.at_ a rfl
    obtain ⟨b, off, s⟩ := a
    subst h1
    exact ⟨b, off, rfl, h3⟩
theorem Own.keep {w w' : World} {size : Nat} {ao : Option Addr} {n cap : Nat} {cs : List Value} (h : Own w size ao n cap cs) {S : Nat → Prop} (hc : Chg S w w') (hS : ∀ a, ao = some a → ¬ S a.block) :
    Own w' size ao n cap cs := by
  refine ⟨h.len, h.le, h.max, h.nil, fun a ha => ?_⟩
  obtain ⟨h1, h2, h3, h4⟩ := h.at_ a ha
  have hb := hc.block a.block h2 (hS a ha)
  refine ⟨h1, Nat.lt_of_lt_of_le h2 hc.size, fun j hj => ?_, fun i v hv => ?_⟩
  · rw [World.cell?_of_block (w := w) (w' := w') (a := ⟨a.block, a.off + j, none⟩) hb, World.frozen?_of_block (w := w) (w' := w') (a := ⟨a.block, a.off + j, none⟩) hb]; exact h3 j hj
  · rw [World.cell?_of_block (w := w) (w' := w') (a := ⟨a.block, a.off + i, none⟩) hb]; exact h4 i v hv
/-- A new block, whole. -/
theorem Own.alloc (w : World) (size n cap : Nat) (xs : Array Value) (t : TypeId) (cs : List Value) (hl : cs.length = n * size) (hn : n ≤ cap) (hm : cap ≤ maxLen) (hs : cap * size ≤ xs.size) (hc : xs.toList.take (n * size) = cs) :
    Own (w.alloc (.cells xs t)) size (some ⟨w.heap.size, 0, none⟩) n cap cs := by
  have hb : (w.alloc (.cells xs t)).heap[w.heap.size]? = some (.cells xs t (0, 0)) := heap_alloc_new w _
  refine ⟨hl, hn, hm, by simp, ?_⟩
  rintro a ⟨⟩
  refine ⟨rfl, by simp, fun j hj => ?_, fun i v hv => ?_⟩
  · simp only [World.cell?, World.frozen?, hb, Nat.zero_add]
    exact ⟨by simp; omega, by simp⟩
  · simp only [World.cell?, hb, Nat.zero_add]
    rw [← hc, List.getElem?_take] at hv
    split at hv
    · simpa using hv
    · cases hv

theorem Own.drew {w : World} {size : Nat} {ao : Option Addr} {n cap : Nat} {cs : List Value} (h : Own w size ao n cap cs) : Own w.drew size ao n cap cs := ⟨h.len, h.le, h.max, h.nil, h.at_⟩
theorem Own.drewN {w : World} {size : Nat} {ao : Option Addr} {n cap : Nat} {cs : List Value} (h : Own w size ao n cap cs) (m : Nat) : Own (w.drewN m) size ao n cap cs := ⟨h.len, h.le, h.max, h.nil, h.at_⟩
theorem Own.alloc0 (w : World) (size : Nat) (t : TypeId) (fz : Nat × Nat) : Own (w.alloc (.cells #[] t fz)) size (some ⟨w.heap.size, 0, none⟩) 0 0 [] := by
  refine ⟨by simp, Nat.le_refl _, by simp, by simp, ?_⟩
  rintro a ⟨⟩
  exact ⟨rfl, by simp, fun j hj => by simp at hj, fun i v hv => by simp at hv⟩
theorem Own.bts {w : World} {ao : Option Addr} {n cap : Nat} {bs : List UInt8} (h : Own w 1 ao n cap (bs.map cb)) : Bts w ao bs := h.row
theorem one_cb (bs : List UInt8) : ∀ u ∈ bs.map cb, u.oneCell' = true := by
  intro u hu
  obtain ⟨b, _, rfl⟩ := List.mem_map.1 hu
  rfl

/-- A beginning of a slice that is owned, its capacity cut. -/
theorem Own.cut {w : World} {size n cap m c : Nat} {ao : Option Addr} {cs : List Value} (h : Own w size ao n cap cs) (hm : m ≤ c) (hn : m ≤ n) (hc : c ≤ cap) : Own w size ao m c (cs.take (m * size)) := by
  have hmul : m * size ≤ n * size := Nat.mul_le_mul_right _ hn
  have hmulc : c * size ≤ cap * size := Nat.mul_le_mul_right _ hc
  have := h.max
  refine ⟨by rw [List.length_take, h.len]; omega, hm, by omega, fun e => by have := h.nil e; omega, fun a ha => ?_⟩
  obtain ⟨h1, h2, h3, h4⟩ := h.at_ a ha
  refine ⟨h1, h2, fun j hj => h3 j (by omega), fun i v hv => h4 i v ?_⟩
  rw [List.getElem?_take] at hv
  split at hv
  · exact hv
  · cases hv
/-- What an element of a slice type is, in the program's table. -/
structure ElemOf (P : Program) (t e : TypeId) (z : Value) (size bytes : Nat) : Prop where
  under : P.underlying t = some (.slice e)
  info : ∃ i, P.info? e = some i ∧ i.zero = some z ∧ i.size = size ∧ i.bytes = bytes
  zsize : z.cells.size = size
  pos : 0 < size
theorem ElemOf.mk' {P : Program} {t e : TypeId} {z : Value} {size bytes : Nat} (h1 : P.underlying t = some (.slice e)) (h2 : (P.info? e).map (fun i => (i.zero, i.size, i.bytes)) = some (some z, size, bytes)) (h3 : z.cells.size = size) (h4 : 0 < size) :
    ElemOf P t e z size bytes := by
  refine ⟨h1, ?_, h3, h4⟩
  cases hi : P.info? e with
  | none => rw [hi] at h2; simp at h2
  | some i => rw [hi] at h2; simp at h2; exact ⟨i, rfl, h2.1, h2.2.1, h2.2.2⟩

theorem add_plain (b off i : Nat) : (⟨b, off, none⟩ : Addr).add i = ⟨b, off + i, none⟩ := by unfold Addr.add; split <;> simp_all

section
variable {P : Program} {w : World} {t e : TypeId} {z : Value} {size bytes : Nat}
/-- append, onto a slice that is owned, of any slice (nil too). -/
theorem run_append2 (ty : TypeId) (hE : ElemOf P t e z size bytes) {ao bo : Option Addr} {n cap m c : Nat} {cs news : List Value} (hown : Own w size ao n cap cs)
    (hl : news.length = m * size) (hnews : Row w bo news) (h1 : ∀ u ∈ news, u.oneCell' = true) (h63 : n + m ≤ maxLen) (hbytes : (n + m) * bytes ≤ 140737488355328) :
    ∃ ao' cap' w', (Builtin.append_ #[t, t] ty #[.slice ao n cap, .slice bo m c]).run P w = .ok (.slice ao' (n + m) cap') w' ∧ Own w' size ao' (n + m) cap' (cs ++ news) ∧
      Chg (fun k => ∃ a, ao = some a ∧ a.block = k) w w' ∧ (ao' = none → ao = none ∧ m = 0) ∧ (∀ a', ao' = some a' → ao = some a' ∨ w.heap.size ≤ a'.block) ∧ (n + m ≤ cap → ao' = ao ∧ cap' = cap) := by
  obtain ⟨i, hi, hz, hsize, hby⟩ := hE.info
  have hsz := hE.pos
  have hzs := hE.zsize
  have hu := hE.under
  subst hsize; subst hby
  have hlen : (cs ++ news).length = (n + m) * i.size := by rw [List.length_append, hown.len, hl, Nat.add_mul]
  -- the source, as an address where there is something in it
  have hsrc : ∀ a, bo = some a → ∀ j u, news[j]? = some u → w.cell? (a.add j) = some u := by
    rintro a rfl j u hu
    obtain ⟨b, off, e1, hc⟩ := hnews (by intro e; subst e; simp at hu)
    cases e1
    rw [add_plain]; exact hc j u hu
  have hm0 : bo = none → m = 0 := by
    rintro rfl
    by_cases hne : news = []
    · subst hne
      rcases Nat.eq_zero_or_pos m with h | h
      · exact h
      · have := Nat.mul_pos h hsz; simp at hl; omega
    · obtain ⟨_, _, e1, _⟩ := hnews hne; cases e1
  by_cases hroom : n + m ≤ cap
  · cases ao with
    | none =>
      have hc0 := hown.nil rfl
      obtain rfl : m = 0 := by omega
      obtain rfl : n = 0 := by omega
      obtain rfl : cap = 0 := hc0
      have hn0 : news = [] := List.eq_nil_of_length_eq_zero (by simpa using hl)
      have hc0' : cs = [] := List.eq_nil_of_length_eq_zero (by simpa using hown.len)
      subst hn0; subst hc0'
      refine ⟨none, 0, w, ?_, Own.nil' w _, Chg.refl _ _, by simp, by simp, by simp⟩
      cases bo with
      | none => simp [Builtin.append_, run_underlying hu, sizeOf, typeInfo, hi, Builtin.lenOf, Builtin.firstCells]
      | some a => simp [Builtin.append_, run_underlying hu, sizeOf, typeInfo, hi, Builtin.lenOf, Builtin.firstCells, loadCells, loadCellsFrom]
    | some a =>
      obtain ⟨b, off, s⟩ := a
      obtain ⟨e0, hlt, hcap, hcs⟩ := hown.at_ _ rfl
      simp only at e0 hlt hcap hcs
      subst e0
      have hmul : (n + m) * i.size ≤ cap * i.size := Nat.mul_le_mul_right _ hroom
      have hadd : (n + m) * i.size = n * i.size + m * i.size := Nat.add_mul _ _ _
      have hcell : ∀ j, j < news.length → (w.cell? ⟨b, off + n * i.size + j, none⟩).isSome = true := fun j hj => by
        have := (hcap (n * i.size + j) (by omega)).1; rwa [← Nat.add_assoc] at this
      have hfroz : ∀ j, j < news.length → w.frozen? ⟨b, off + n * i.size + j, none⟩ = false := fun j hj => by
        have := (hcap (n * i.size + j) (by omega)).2; rwa [← Nat.add_assoc] at this
      have hst := run_storeCells_cells (P := P) b (off + n * i.size) news 0 w (by simpa using hcell) (by simpa using hfroz) h1
      simp only [Nat.add_zero] at hst
      have hrun : (Builtin.append_ #[t, t] ty #[.slice (some ⟨b, off, none⟩) n cap, .slice bo m c]).run P w = .ok (.slice (some ⟨b, off, none⟩) (n + m) cap) (w.setCells b (off + n * i.size) news) := by
        cases bo with
        | none =>
          obtain rfl := hm0 rfl
          have hn0 : news = [] := List.eq_nil_of_length_eq_zero (by simpa using hl)
          subst hn0
          simp [Builtin.append_, run_underlying hu, sizeOf, typeInfo, hi, Builtin.lenOf, Builtin.firstCells, hown.le, World.setCells, storeCells]
        | some a => exact run_append_room_cells (P := P) w t ty e i hu hi b off n cap a m c news hl (hsrc a rfl) h1 hroom hcell hfroz
      have hblk : ∀ k, k ≠ b → (w.setCells b (off + n * i.size) news).heap[k]? = w.heap[k]? := by
        intro k hk
        clear hst hrun hcell hfroz hnews hl h1 hlen hsrc
        generalize off + n * i.size = o
        clear hm0 hcap hcs hown hroom hmul
        induction news generalizing w o with
        | nil => rfl
        | cons u us ih =>
          simp only [World.setCells]
          rw [ih (w := w.setCell ⟨b, o, none⟩ u) (by simpa [World.setCell] using hlt)]
          exact Below.heap_setCell _ _ _ _ hk
      have hsz' : (w.setCells b (off + n * i.size) news).heap.size = w.heap.size ∧ (w.setCells b (off + n * i.size) news).os = w.os ∧ (w.setCells b (off + n * i.size) news).tape = w.tape ∧ (w.setCells b (off + n * i.size) news).output = w.output := by
        clear hst hrun hcell hfroz hnews hl h1 hlen hsrc
        generalize off + n * i.size = o
        clear hm0 hcap hcs hown hroom hmul hblk
        induction news generalizing w o with
        | nil => exact ⟨rfl, rfl, rfl, rfl⟩
        | cons u us ih =>
          simp only [World.setCells]
          obtain ⟨h1, h2, h3, h4⟩ := ih (w := w.setCell ⟨b, o, none⟩ u) (by simpa [World.setCell] using hlt) (o + 1)
          exact ⟨h1.trans (by simp [World.setCell]), h2, h3, h4⟩
      refine ⟨some ⟨b, off, none⟩, cap, _, hrun, ⟨hlen, hroom, hown.max, by simp, ?_⟩, ⟨hsz'.2.1, hsz'.2.2.1, hsz'.2.2.2, by rw [hsz'.1]; exact Nat.le_refl _, fun k _ hk => hblk k fun e => hk ⟨_, rfl, e.symm⟩⟩, by simp, by simp, by simp⟩
      rintro a' ⟨⟩
      refine ⟨rfl, by rw [hsz'.1]; exact hlt, fun j hj => ⟨?_, ?_⟩, fun k v hv => ?_⟩
      · by_cases hin : n * i.size ≤ j ∧ j < n * i.size + news.length
        · have := World.cell?_setCells_in b news (off + n * i.size) w hcell (j - n * i.size) (by omega)
          rw [show off + n * i.size + (j - n * i.size) = off + j by omega] at this
          simp only [this, Option.isSome_some]
        · rw [World.cell?_setCells_out b news (off + n * i.size) w ⟨b, off + j, none⟩ (fun _ _ => by simp only; omega)]
          exact (hcap j hj).1
      · rw [World.frozen?_setCells]; exact (hcap j hj).2
      · by_cases hk : k < cs.length
        · rw [List.getElem?_append_left hk] at hv
          rw [World.cell?_setCells_out b news (off + n * i.size) w ⟨b, off + k, none⟩ (fun _ _ => by simp only; rw [hown.len] at hk; omega)]
          exact hcs k v hv
        · rw [List.getElem?_append_right (by omega)] at hv
          have hkl : k - cs.length < news.length := by
            rcases Nat.lt_or_ge (k - cs.length) news.length with h | h
            · exact h
            · rw [List.getElem?_eq_none h] at hv; cases hv
          have := World.cell?_setCells_in b news (off + n * i.size) w hcell (k - cs.length) hkl
          rw [show off + n * i.size + (k - cs.length) = off + k by rw [hown.len] at hk ⊢; omega] at this
          rw [List.getElem?_eq_getElem hkl] at hv
          cases hv
          exact this
  · -- it grows
    have hmp : 0 < m := by have := hown.le; omega
    cases bo with
    | none => exact absurd (hm0 rfl) (by omega)
    | some a =>
      have hge := grownCap_ge w (n + m) cap e
      have hcm := grownCap_le_maxLen w (n + m) cap e h63
      have hsmall : ((n + m : Nat) : Int) ≤ 9223372036854775807 := by simp only [maxLen] at h63; omega
      have hnew : ∀ old, Own (w.drew.alloc (.cells (cs.toArray ++ news.toArray ++ Builtin.zeroCells z.cells (grownCap w (n + m) old e - (n + m))) e)) i.size (some ⟨w.heap.size, 0, none⟩) (n + m) (grownCap w (n + m) old e) (cs ++ news) := by
        intro old
        have hge := grownCap_ge w (n + m) old e
        have hcm := grownCap_le_maxLen w (n + m) old e h63
        refine Own.alloc w.drew i.size (n + m) _ _ e _ hlen hge hcm ?_ ?_
        · simp only [Array.size_append, List.size_toArray, size_zeroCells, hzs, hown.len, hl, ← Nat.add_mul]
          rw [show n + m + (grownCap w (n + m) old e - (n + m)) = grownCap w (n + m) old e by omega]
          exact Nat.le_refl _
        · simp only [Array.toList_append]
          rw [← hlen]
          exact List.take_left
      cases ao with
      | none =>
        have hc0 := hown.nil rfl
        obtain rfl : n = 0 := by have := hown.le; omega
        subst hc0
        have hc0' : cs = [] := List.eq_nil_of_length_eq_zero (by simpa using hown.len)
        subst hc0'
        have hr := run_append_nil (P := P) w t ty e i z hu hi hz a m c news hl (hsrc a rfl) (by omega) (by simpa using hsmall) (by have hb := hbytes; simp only [Nat.zero_add] at hb; omega)
        have h2 := hnew 0
        simp only [Nat.zero_add, List.nil_append, Array.empty_append] at h2 ⊢
        exact ⟨_, _, _, hr, h2, (Chg.refl _ _).drew.alloc _, by simp, by rintro a' ⟨⟩; exact .inr (Nat.le_refl _), fun h => absurd h (by omega)⟩
      | some b =>
        have holds : ∀ j u, cs[j]? = some u → w.cell? (b.add j) = some u := by
          obtain ⟨b, off, s⟩ := b
          obtain ⟨e0, _, _, hcs⟩ := hown.at_ _ rfl
          simp only at e0 hcs
          subst e0
          intro j u hj; rw [add_plain]; exact hcs j u hj
        have hr := run_append_grow (P := P) w t ty e i z hu hi hz b n cap cs hown.len holds a m c news hl (hsrc a rfl) (by omega) hsmall (growslice_fits (by omega) hbytes)
        exact ⟨_, _, _, hr, hnew cap, (Chg.refl _ _).drew.alloc _, by simp, by rintro a' ⟨⟩; exact .inr (Nat.le_refl _), fun h => absurd h (by omega)⟩
/-- The same, of any room. -/
theorem run_append' (ty : TypeId) (hE : ElemOf P t e z size bytes) {ao bo : Option Addr} {n cap m c : Nat} {cs news : List Value} (hown : Own w size ao n cap cs)
    (hl : news.length = m * size) (hnews : Row w bo news) (h1 : ∀ u ∈ news, u.oneCell' = true) (h63 : n + m ≤ maxLen) (hbytes : (n + m) * bytes ≤ 140737488355328) :
    ∃ ao' cap' w', (Builtin.append_ #[t, t] ty #[.slice ao n cap, .slice bo m c]).run P w = .ok (.slice ao' (n + m) cap') w' ∧ Own w' size ao' (n + m) cap' (cs ++ news) ∧
      Chg (fun k => ∃ a, ao = some a ∧ a.block = k) w w' ∧ (ao' = none → ao = none ∧ m = 0) ∧ (∀ a', ao' = some a' → ao = some a' ∨ w.heap.size ≤ a'.block) := by
  obtain ⟨ao', cap', w', h1, h2, h3, h4, h5, _⟩ := run_append2 ty hE (c := c) hown hl hnews h1 h63 hbytes
  exact ⟨ao', cap', w', h1, h2, h3, h4, h5⟩
/-- Where there is room: in place. -/
theorem run_append_in (ty : TypeId) (hE : ElemOf P t e z size bytes) {ao bo : Option Addr} {n cap m c : Nat} {cs news : List Value} (hown : Own w size ao n cap cs)
    (hl : news.length = m * size) (hnews : Row w bo news) (h1 : ∀ u ∈ news, u.oneCell' = true) (hroom : n + m ≤ cap) (hbytes : (n + m) * bytes ≤ 140737488355328) :
    ∃ w', (Builtin.append_ #[t, t] ty #[.slice ao n cap, .slice bo m c]).run P w = .ok (.slice ao (n + m) cap) w' ∧ Own w' size ao (n + m) cap (cs ++ news) ∧
      Chg (fun k => ∃ a, ao = some a ∧ a.block = k) w w' := by
  obtain ⟨ao', cap', w', h1, h2, h3, h4, h5, h6⟩ := run_append2 ty hE (c := c) hown hl hnews h1 (Nat.le_trans hroom hown.max) hbytes
  obtain ⟨rfl, rfl⟩ := h6 hroom
  exact ⟨w', h1, h2, h3⟩
/-- The same, for the walk. -/
theorem wp_append' {o : Oper} {a : Act} {K : Act → World → Prop} {Q : Exit → Act → World → Prop} (s x : Operand) (hE : ElemOf P t e z size bytes)
    (ho : o.op = .call { callee := .builtin .append, args := #[s, x], argTypes := #[t, t] }) {ao bo : Option Addr} {n cap m c : Nat} {cs news : List Value}
    (hs : a.eval s = .slice ao n cap) (hx : a.eval x = .slice bo m c) (hown : Own w size ao n cap cs)
    (hl : news.length = m * size) (hnews : Row w bo news) (h1 : ∀ u ∈ news, u.oneCell' = true) (h63 : n + m ≤ maxLen) (hbytes : (n + m) * bytes ≤ 140737488355328)
    (h : ∀ ao' cap' w', Own w' size ao' (n + m) cap' (cs ++ news) → Chg (fun k => ∃ a, ao = some a ∧ a.block = k) w w' → (ao' = none → ao = none ∧ m = 0) → (∀ a', ao' = some a' → ao = some a' ∨ w.heap.size ≤ a'.block) →
      K (a.put o.dst (.slice ao' (n + m) cap')) w') : o.wp P a w K Q := by
  obtain ⟨ao', cap', w', hr, h2, h3, h4, h5⟩ := run_append' (w := w) o.type hE (c := c) hown hl hnews h1 h63 hbytes
  unfold Oper.wp execOp
  simp only [ho, resolve, invoke, builtin, Sem.run_bind, Sem.run_pure, Result.andThen_ok, List.map_toArray, List.map_cons, List.map_nil, hs, hx, hr]
  exact h ao' cap' w' h2 h3 h4 h5
theorem wpList_append' {ops : Array Oper} {rest : List Oper} {o : Oper} {a : Act} {Q : Exit → Act → World → Prop} (hgd : o.guard = none) (s x : Operand) (hE : ElemOf P t e z size bytes)
    (ho : o.op = .call { callee := .builtin .append, args := #[s, x], argTypes := #[t, t] }) {ao bo : Option Addr} {n cap m c : Nat} {cs news : List Value}
    (hs : a.eval s = .slice ao n cap) (hx : a.eval x = .slice bo m c) (hown : Own w size ao n cap cs)
    (hl : news.length = m * size) (hnews : Row w bo news) (h1 : ∀ u ∈ news, u.oneCell' = true) (h63 : n + m ≤ maxLen) (hbytes : (n + m) * bytes ≤ 140737488355328)
    (h : ∀ ao' cap' w', Own w' size ao' (n + m) cap' (cs ++ news) → Chg (fun k => ∃ a, ao = some a ∧ a.block = k) w w' → (ao' = none → ao = none ∧ m = 0) → (∀ a', ao' = some a' → ao = some a' ∨ w.heap.size ≤ a'.block) →
      wpList P ops Q rest (a.put o.dst (.slice ao' (n + m) cap')) w') : wpList P ops Q (o :: rest) a w :=
  wpList_plain hgd fun _ hK => wp_append' s x hE ho hs hx hown hl hnews h1 h63 hbytes fun ao' cap' w' h2 h3 h4 h5 => hK _ _ (h ao' cap' w' h2 h3 h4 h5)
end
/-- make. -/
theorem wpList_make' {P : Program} {w : World} {t e : TypeId} {z : Value} {size bytes : Nat} {ops : Array Oper} {rest : List Oper} {o : Oper} {a : Act} {Q : Exit → Act → World → Prop} (hgd : o.guard = none) (l c : Operand)
    (hE : ElemOf P t e z size bytes) (ho : o.op = .makeSlice t l c) {kl kc : IntKind} {L C : Int} {n m : Nat} (hl : a.eval l = .int kl L) (hc : a.eval c = .int kc C) (hL : L = (n : Int)) (hC : C = (m : Int)) (hnm : n ≤ m) (hb : bytes * m ≤ 281474976710656) (h63 : m ≤ maxLen)
    (h : Own (w.alloc (.cells (madeCells z.cells (m * size)) e)) size (some ⟨w.heap.size, 0, none⟩) n m ((madeCells z.cells (m * size)).toList.take (n * size)) →
      wpList P ops Q rest (a.put o.dst (.slice (some ⟨w.heap.size, 0, none⟩) n m)) (w.alloc (.cells (madeCells z.cells (m * size)) e))) : wpList P ops Q (o :: rest) a w := by
  obtain ⟨i, hi, hz, hsize, hby⟩ := hE.info
  have hu := hE.under
  have hzs := hE.zsize
  subst hsize; subst hby; subst hL; subst hC
  refine wpList_plain hgd fun K hK => ?_
  have hr := run_make (P := P) w t e i z hu hi hz kl kc (n : Int) (m : Int) (by omega) (by omega) (by have := hb; omega) (by simp only [maxLen] at h63; omega)
  simp only [Int.toNat_natCast] at hr
  have hmul : n * i.size ≤ m * i.size := Nat.mul_le_mul_right _ hnm
  have h' := h (Own.alloc w i.size n m _ e _ (by simp only [List.length_take, Array.length_toList, size_madeCells]; omega) hnm h63 (by rw [size_madeCells]; exact Nat.le_refl _) rfl)
  unfold Oper.wp
  simp [execOp, ho, hl, hc, hr, Result.andThen]
  exact hK _ _ h'
/-- A store into a slice that is owned. -/
theorem Own.set {w : World} {size n cap : Nat} {b off : Nat} {cs : List Value} (h : Own w size (some ⟨b, off, none⟩) n cap cs) (k : Nat) (v : Value) (hk : k < n * size) :
    Own (w.setCell ⟨b, off + k, none⟩ v) size (some ⟨b, off, none⟩) n cap (cs.set k v) := by
  refine ⟨by rw [List.length_set]; exact h.len, h.le, h.max, by simp, ?_⟩
  obtain ⟨_, h2, h3, h4⟩ := h.at_ _ rfl
  have hle : n * size ≤ cap * size := Nat.mul_le_mul_right _ h.le
  have hsome := (h3 k (by omega)).1
  simp only at h2 h3 h4 hsome
  rintro a ⟨⟩
  refine ⟨rfl, by simpa [World.setCell] using h2, fun j hj => ⟨?_, ?_⟩, fun i u hu => ?_⟩
  · by_cases e : j = k
    · subst e
      obtain ⟨x, hx⟩ := Option.isSome_iff_exists.1 hsome
      rw [World.cell?_setCell_same _ _ _ hx]; rfl
    · rw [World.cell?_setCell_other (h := by intro q; simp at q; omega)]; exact (h3 j hj).1
  · rw [World.frozen?_setCell]; exact (h3 j hj).2
  · obtain ⟨x, hx⟩ := Option.isSome_iff_exists.1 hsome
    by_cases e : i = k
    · subst e
      rw [List.getElem?_set_self (by rw [h.len]; exact hk)] at hu
      cases hu
      exact World.cell?_setCell_same _ _ _ hx
    · rw [List.getElem?_set_ne (fun q => e q.symm)] at hu
      rw [World.cell?_setCell_other (h := by intro q; simp at q; omega)]; exact h4 i u hu
theorem Own.cellAt {w : World} {size n cap : Nat} {b off : Nat} {cs : List Value} (h : Own w size (some ⟨b, off, none⟩) n cap cs) {k : Nat} {v : Value} (hv : cs[k]? = some v) :
    w.cell? ⟨b, off + k, none⟩ = some v ∧ w.frozen? ⟨b, off + k, none⟩ = false := by
  obtain ⟨_, h2, h3, h4⟩ := h.at_ _ rfl
  have hk : k < cs.length := by
    rcases Nat.lt_or_ge k cs.length with h | h
    · exact h
    · rw [List.getElem?_eq_none h] at hv; cases hv
  have hle : n * size ≤ cap * size := Nat.mul_le_mul_right _ h.le
  have := h.len
  exact ⟨h4 k v hv, (h3 k (by omega)).2⟩
theorem step_append' {P : Program} {w : World} {t e : TypeId} {z : Value} {size bytes : Nat} {ops : Array Oper} {o : Oper} {a : Act} {K : Act → World → Prop} {Q : Exit → Act → World → Prop} {E : Prop} (hgd : o.guard = none) (s x : Operand) (hE : ElemOf P t e z size bytes)
    (ho : o.op = .call { callee := .builtin .append, args := #[s, x], argTypes := #[t, t] }) {ao bo : Option Addr} {n cap m c : Nat} {cs news : List Value}
    (hs : a.eval s = .slice ao n cap) (hx : a.eval x = .slice bo m c) (hown : Own w size ao n cap cs)
    (hl : news.length = m * size) (hnews : Row w bo news) (h1 : ∀ u ∈ news, u.oneCell' = true) (h63 : n + m ≤ maxLen) (hbytes : (n + m) * bytes ≤ 140737488355328)
    (h : ∀ ao' cap' w', Own w' size ao' (n + m) cap' (cs ++ news) → Chg (fun k => ∃ a, ao = some a ∧ a.block = k) w w' → (ao' = none → ao = none ∧ m = 0) → (∀ a', ao' = some a' → ao = some a' ∨ w.heap.size ≤ a'.block) →
      K (a.put o.dst (.slice ao' (n + m) cap')) w') : if Region.wanted o (yielded ops a.tmps) = true then Oper.wp P o a w K Q else E := by
  rw [if_pos (by simp [Region.wanted, hgd])]
  exact wp_append' s x hE ho hs hx hown hl hnews h1 h63 hbytes h
theorem step_append_in {P : Program} {w : World} {t e : TypeId} {z : Value} {size bytes : Nat} {ops : Array Oper} {o : Oper} {a : Act} {K : Act → World → Prop} {Q : Exit → Act → World → Prop} {E : Prop} (hgd : o.guard = none) (s x : Operand) (hE : ElemOf P t e z size bytes)
    (ho : o.op = .call { callee := .builtin .append, args := #[s, x], argTypes := #[t, t] }) {ao bo : Option Addr} {n cap m c : Nat} {cs news : List Value}
    (hs : a.eval s = .slice ao n cap) (hx : a.eval x = .slice bo m c) (hown : Own w size ao n cap cs)
    (hl : news.length = m * size) (hnews : Row w bo news) (h1 : ∀ u ∈ news, u.oneCell' = true) (hroom : n + m ≤ cap) (hbytes : (n + m) * bytes ≤ 140737488355328)
    (h : ∀ w', Own w' size ao (n + m) cap (cs ++ news) → Chg (fun k => ∃ a, ao = some a ∧ a.block = k) w w' →
      K (a.put o.dst (.slice ao (n + m) cap)) w') : if Region.wanted o (yielded ops a.tmps) = true then Oper.wp P o a w K Q else E := by
  rw [if_pos (by simp [Region.wanted, hgd])]
  obtain ⟨w', hr, h2, h3⟩ := run_append_in (w := w) o.type hE (c := c) hown hl hnews h1 hroom hbytes
  unfold Oper.wp execOp
  simp only [ho, resolve, invoke, builtin, Sem.run_bind, Sem.run_pure, Result.andThen_ok, List.map_toArray, List.map_cons, List.map_nil, hs, hx, hr]
  exact h w' h2 h3
theorem chg_setCells (b : Nat) : ∀ (vs : List Value) (o : Nat) (w : World), Chg (· = b) w (w.setCells b o vs)
  | [], _, w => Chg.refl _ w
  | v :: r, o, w => (Chg.one w b o v).trans (chg_setCells b r (o + 1) _) (fun _ _ h => h)
/-- Cells behind the first ones, written. -/
theorem Own.behind {w : World} {size b off n cap O : Nat} {cs vs : List Value} (h : Own w size (some ⟨b, off, none⟩) n cap cs) (hO : off + n * size ≤ O) (hl : O + vs.length ≤ off + cap * size) :
    Own (w.setCells b O vs) size (some ⟨b, off, none⟩) n cap cs := by
  obtain ⟨_, h2, h3, h4⟩ := h.at_ _ rfl
  simp only at h2 h3 h4
  have hcell : ∀ j, j < vs.length → (w.cell? ⟨b, O + j, none⟩).isSome = true := fun j hj => by
    have := (h3 (O - off + j) (by omega)).1; rwa [show off + (O - off + j) = O + j by omega] at this
  refine ⟨h.len, h.le, h.max, by simp, ?_⟩
  rintro a ⟨⟩
  refine ⟨rfl, Nat.lt_of_lt_of_le h2 (chg_setCells b vs O w).size, fun j hj => ⟨?_, ?_⟩, fun k v hv => ?_⟩
  · by_cases hin : O ≤ off + j ∧ off + j < O + vs.length
    · have := World.cell?_setCells_in b vs O w hcell (off + j - O) (by omega)
      rw [show O + (off + j - O) = off + j by omega] at this
      simp only [this, Option.isSome_some]
    · rw [World.cell?_setCells_out b vs O w ⟨b, off + j, none⟩ (fun _ _ => by simp only; omega)]
      exact (h3 j hj).1
  · rw [World.frozen?_setCells]; exact (h3 j hj).2
  · have hk : k < cs.length := by
      rcases Nat.lt_or_ge k cs.length with h | h
      · exact h
      · rw [List.getElem?_eq_none h] at hv; cases hv
    rw [h.len] at hk
    rw [World.cell?_setCells_out b vs O w ⟨b, off + k, none⟩ (fun _ _ => by simp only; omega)]
    exact h4 k v hv
/-- clear, of what lies behind the first ones of a slice that is owned. -/
theorem run_clear' {P : Program} {w : World} {t e : TypeId} {z : Value} {size bytes : Nat} (ty : TypeId) (hE : ElemOf P t e z size bytes) {b off n cap m c O : Nat} {cs : List Value} (hO : O = off + n * size) (hown : Own w size (some ⟨b, off, none⟩) n cap cs)
    (hm : 0 < m) (hroom : n + m ≤ cap) (h1 : ∀ u ∈ z.cells.toList, u.oneCell' = true) :
    ∃ w', (Builtin.clear_ #[t] ty #[.slice (some ⟨b, O, none⟩) m c]).run P w = .ok (.tuple #[]) w' ∧ Own w' size (some ⟨b, off, none⟩) n cap cs ∧ Chg (· = b) w w' := by
  obtain ⟨i, hi, hz, hsize, hby⟩ := hE.info
  have hu := hE.under
  have hzs := hE.zsize
  have hpos := hE.pos
  subst hO
  have hmul : (n + m) * size ≤ cap * size := Nat.mul_le_mul_right _ hroom
  have hadd : (n + m) * size = n * size + m * size := Nat.add_mul _ _ _
  obtain ⟨_, h2, h3, h4⟩ := hown.at_ _ rfl
  simp only at h2 h3 h4
  have hlen : (Builtin.zeroCells z.cells m).toList.length = m * size := by rw [Array.length_toList, size_zeroCells, hzs]
  have hone : ∀ v ∈ (Builtin.zeroCells z.cells m).toList, v.oneCell' = true := by
    intro v hv
    simp only [Builtin.zeroCells, Array.toList_map, List.mem_map] at hv
    obtain ⟨k, _, rfl⟩ := hv
    have hk : k % z.cells.size < z.cells.size := Nat.mod_lt _ (by omega)
    rw [getElem!_pos z.cells _ hk]
    exact h1 _ (by simp)
  have hst := run_storeCells_cells (P := P) b (off + n * size) (Builtin.zeroCells z.cells m).toList 0 w
    (fun j hj => by have := (h3 (n * size + j) (by omega)).1; rwa [show off + (n * size + j) = off + n * size + 0 + j by omega] at this)
    (fun j hj => by have := (h3 (n * size + j) (by omega)).2; rwa [show off + (n * size + j) = off + n * size + 0 + j by omega] at this) hone
  simp only [Nat.add_zero] at hst
  refine ⟨_, ?_, hown.behind (vs := (Builtin.zeroCells z.cells m).toList) (Nat.le_refl _) (by omega), chg_setCells b _ _ w⟩
  obtain ⟨m, rfl⟩ : ∃ k, m = k + 1 := ⟨m - 1, by omega⟩
  simp [Builtin.clear_, run_underlying hu, zeroValue, typeInfo, hi, hz, hst]
theorem wpList_clear' {P : Program} {w : World} {t e : TypeId} {z : Value} {size bytes : Nat} {ops : Array Oper} {rest : List Oper} {o : Oper} {a : Act} {Q : Exit → Act → World → Prop} (hgd : o.guard = none) (x : Operand) (hE : ElemOf P t e z size bytes)
    (ho : o.op = .call { callee := .builtin .clear, args := #[x], argTypes := #[t] }) {b off n cap m c O : Nat} {cs : List Value} (hx : a.eval x = .slice (some ⟨b, O, none⟩) m c) (hO : O = off + n * size) (hown : Own w size (some ⟨b, off, none⟩) n cap cs)
    (hm : 0 < m) (hroom : n + m ≤ cap) (h1 : ∀ u ∈ z.cells.toList, u.oneCell' = true)
    (h : ∀ w', Own w' size (some ⟨b, off, none⟩) n cap cs → Chg (· = b) w w' → wpList P ops Q rest (a.put o.dst (.tuple #[])) w') : wpList P ops Q (o :: rest) a w := by
  refine wpList_plain hgd fun K hK => ?_
  obtain ⟨w', hr, h2, h3⟩ := run_clear' (w := w) o.type hE (c := c) hO hown hm hroom h1
  unfold Oper.wp execOp
  simp only [ho, resolve, invoke, builtin, Sem.run_bind, Sem.run_pure, Result.andThen_ok, List.map_toArray, List.map_cons, List.map_nil, hx, hr]
  exact hK _ _ (h w' h2 h3)
theorem own_at {w : World} {b off n c : Nat} {l : List UInt8} (h : Own w 1 (some ⟨b, off, none⟩) n c (l.map cb)) {k : Nat} (hk : k < l.length) :
    ∃ v : UInt8, l[k]? = some v ∧ w.cell? ⟨b, off + k, none⟩ = some (.int .u8 (v.toNat : Int)) ∧ w.frozen? ⟨b, off + k, none⟩ = false := by
  have := h.cellAt (k := k) (v := cb l[k]) (by simp [hk])
  exact ⟨_, List.getElem?_eq_getElem hk, this⟩
/-- What such a call has turned is of its own. -/
theorem chg_new {w w1 w2 : World} {o : Obj} (h1 : Below w.heap.size w w1) (h2 : Chg (fun k => ∃ a, some (⟨w1.heap.size, 0, none⟩ : Addr) = some a ∧ a.block = k) (w1.alloc o) w2) : Below w.heap.size w w2 := by
  refine (h1.alloc h1.size o).trans (h2.below (by have := h1.size; simp; omega) ?_)
  rintro k ⟨a, h, rfl⟩; cases h; exact h1.size
theorem new_blk {w w1 : World} {o : Obj} {xo : Option Addr} (h1 : Below w.heap.size w w1) (h : ∀ a', xo = some a' → some (⟨w1.heap.size, 0, none⟩ : Addr) = some a' ∨ (w1.alloc o).heap.size ≤ a'.block) :
    ∀ a', xo = some a' → w.heap.size ≤ a'.block := by
  intro a' ha
  have := h1.size
  rcases h a' ha with e | e
  · cases e; exact this
  · simp at e; omega
theorem chg_on {B : Nat} {w w2 w3 : World} {xo : Option Addr} (h1 : Below B w w2) (h2 : Chg (fun k => ∃ a, xo = some a ∧ a.block = k) w2 w3) (hB : B ≤ w2.heap.size) (hx : ∀ a', xo = some a' → B ≤ a'.block) : Below B w w3 := by
  refine h1.trans (h2.below hB ?_)
  rintro k ⟨a, ha, rfl⟩; exact hx a ha
end Go.Proofs.YtibigfglhpdjmaaDoor
