/-
  LAYER 2: things that are put: the statements' arguments, and what their helpers do.
-/
import Derived.Test.YtggidllaodloiaaPackU
namespace Go.Proofs.Ytggidllaodloiaa
open Go Go.RowKit

/-- A thing, as the statements have it. -/
structure Thing where
  kind : UInt8
  n : Nat
  bs : List UInt8
  s : ByteArray
structure ThingIs (w : World) (t : Thing) (cs : List Value) : Prop where
  is : ∃ ao cap, cs = [.int .u8 (t.kind.toNat : Int), .int .u64 (t.n : Int), .slice ao t.bs.length cap, .string t.s] ∧ Bts w ao t.bs
  n64 : t.n < 18446744073709551616
  len : t.bs.length ≤ maxLen
  slen : t.s.size ≤ maxLen
theorem things_below {w w' : World} {co : Option Addr} {l : List Thing} (h : RowOf w co 4 (ThingIs w) l) (hb : Below w.heap.size w w') : RowOf w' co 4 (ThingIs w') l := by
  intro h0
  obtain ⟨b, off, rfl, hz⟩ := h h0
  refine ⟨b, off, rfl, fun i hi => ?_⟩
  obtain ⟨es, hes, ⟨⟨ao, cap, he, hab⟩, h1, h2, h3⟩, hc⟩ := hz i hi
  exact ⟨es, hes, ⟨⟨ao, cap, he, hab.below hb⟩, h1, h2, h3⟩, fun j v hv => (Chg.of_below hb (fun _ => False)).cell (hc j v hv) (fun h => h)⟩
/-- What a thing is as bytes. -/
def Thing.enc (t : Thing) : List UInt8 :=
  if t.kind.toNat % 6 = 0 then be 1 (t.n % 256) else if t.kind.toNat % 6 = 1 then be 2 (t.n % 65536) else if t.kind.toNat % 6 = 2 then be 4 (t.n % 4294967296)
  else if t.kind.toNat % 6 = 3 then be 8 t.n else if t.kind.toNat % 6 = 4 then be 4 t.bs.length ++ t.bs else be 4 t.s.size ++ t.s.data.toList
/-- No thing is longer than the statements let in. -/
def Short (l : List Thing) : Prop := l.length ≤ 60 ∧ ∀ t ∈ l, t.bs.length ≤ 1000 ∧ t.s.size ≤ 1000
/-- All of them. -/
def encs (l : List Thing) : List UInt8 := l.flatMap Thing.enc
theorem encs_take {l : List Thing} {k : Nat} {t : Thing} (h : l[k]? = some t) : encs (l.take (k + 1)) = encs (l.take k) ++ t.enc := by
  rw [encs, List.take_add_one, h, List.flatMap_append]; simp [encs]
theorem enc_len (t : Thing) (h : t.bs.length ≤ 1000 ∧ t.s.size ≤ 1000) : t.enc.length ≤ 1004 := by
  unfold Thing.enc
  repeat' split
  all_goals simp only [List.length_append, be_length, Array.length_toList]
  all_goals first | omega | (have : t.s.data.size = t.s.size := rfl; omega)
theorem encs_len : ∀ (l : List Thing), (∀ t ∈ l, t.bs.length ≤ 1000 ∧ t.s.size ≤ 1000) → (encs l).length ≤ 1004 * l.length
  | [], _ => by simp [encs]
  | t :: l, h => by
    have := encs_len l (fun t ht => h t (by simp [ht]))
    have := enc_len t (h t (by simp))
    simp only [encs, List.flatMap_cons, List.length_append, List.length_cons] at *
    omega
/-- A writer and the document's bytes, both made behind w0. -/
structure Both (w0 w : World) (p : Nat) (F : List Nat) (bo : Option Addr) (n cap : Nat) (bw bs : List UInt8) : Prop where
  wr : WrAt w p bw F
  own : Own w 1 bo n cap (bs.map cb)
  new : ∀ k ∈ F, w0.heap.size ≤ k
  newb : ∀ a, bo = some a → w0.heap.size ≤ a.block ∧ a.block ∉ F
  below : Below w0.heap.size w0 w
theorem Both.alloc {w0 w : World} {p : Nat} {F : List Nat} {bo : Option Addr} {n cap : Nat} {bw bs : List UInt8} (h : Both w0 w p F bo n cap bw bs) (o : Obj) : Both w0 (w.alloc o) p F bo n cap bw bs :=
  ⟨h.wr.keep ((Chg.refl (fun _ => False) _).alloc o) (fun _ _ h => h), h.own.keep ((Chg.refl (fun _ => False) _).alloc o) (fun _ _ h => h), h.new, h.newb, h.below.alloc h.below.size o⟩
theorem Both.drew {w0 w : World} {p : Nat} {F : List Nat} {bo : Option Addr} {n cap : Nat} {bw bs : List UInt8} (h : Both w0 w p F bo n cap bw bs) : Both w0 w.drew p F bo n cap bw bs :=
  ⟨h.wr.keep ((Chg.refl (fun _ => False) _).drew) (fun _ _ h => h), h.own.drew, h.new, h.newb, h.below.drew⟩
theorem Both.wrote {w0 w w' : World} {p : Nat} {F : List Nat} {bo : Option Addr} {n cap : Nat} {bw bw' bs : List UInt8} (h : Both w0 w p F bo n cap bw bs) (hn : WrNow w p F bw' w') : ∃ F', Both w0 w' p F' bo n cap bw' bs := by
  obtain ⟨F', h1, h2, h3⟩ := hn
  refine ⟨F', h1, h.own.keep h2 (fun a ha => (h.newb a ha).2), fun k hk => ?_, fun a ha => ⟨(h.newb a ha).1, fun hF => ?_⟩, h.below.trans (h2.below h.below.size h.new)⟩
  · rcases h3 k hk with e | e
    · exact h.new k e
    · exact Nat.le_trans h.below.size e
  · rcases h3 _ hF with e | e
    · exact (h.newb a ha).2 e
    · have := (h.own.at_ a ha).2.1; omega
theorem Both.slid {w0 w w' : World} {p : Nat} {F : List Nat} {bo bo' : Option Addr} {n n' cap cap' : Nat} {bw bs bs' : List UInt8} (h : Both w0 w p F bo n cap bw bs) (hs : SlApp w bo w' bo' n' cap' bs') : Both w0 w' p F bo' n' cap' bw bs' := by
  refine ⟨h.wr.keep hs.chg ?_, hs.own, h.new, fun a ha => ?_, h.below.trans (hs.chg.below h.below.size ?_)⟩
  · rintro k hk ⟨a, ha, rfl⟩
    exact (h.newb a ha).2 hk
  · rcases hs.at_ a ha with e | e
    · exact h.newb a e
    · exact ⟨Nat.le_trans h.below.size e, fun hF => by have := h.wr.lt _ hF; omega⟩
  · rintro k ⟨a, ha, rfl⟩
    exact (h.newb a ha).1
end Go.Proofs.Ytggidllaodloiaa
