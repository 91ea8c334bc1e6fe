/-
  LAYER 6: what the laws share: acts, a tree with the box of an act, what puts leave.
-/
import Derived.Test.YtebhbfjnobcckaaTreeM
import Derived.Test.YtebhbfjnobcckaaTreeO
import Derived.Test.YtebhbfjnobcckaaTreeK
namespace Go.Proofs.Ytebhbfjnobcckaa
open Go Go.RowKit

structure ActT where
  kind : UInt8
  key : ByteArray
  vo : Option Addr
  bs : List UInt8
  c : Nat
  want : Nat
  own : Nat
def ActIs (w : World) (t : ActT) (cs : List Value) : Prop := cs = [.int .u8 (t.kind.toNat : Int), .string t.key, .slice t.vo t.bs.length t.c, .int .u64 (t.want : Int), .int .u64 (t.own : Int)] ∧ t.key.size ≤ maxLen ∧ Bts w t.vo t.bs ∧ t.bs.length ≤ t.c ∧ t.c ≤ maxLen ∧ t.want < 18446744073709551616 ∧ t.own < 18446744073709551616
theorem actIs_rd {w : World} {cs : List Value} (h : Rd Try.prog w 52 cs) : ∃ t, ActIs w t cs := by
  obtain ⟨k, key, vo, bs, c, a, b, rfl, h1, h2, h3, h4, h5, h6⟩ := act_rd h
  exact ⟨⟨k, key, vo, bs, c, a, b⟩, rfl, h1, h2, h3, h4, h5, h6⟩
theorem act_of {w : World} {po : Option Addr} {ps : List ActT} {k : Nat} (h : RowOf w po 5 (ActIs w) ps) (hk : k < ps.length) : ∃ (b off : Nat) (t : ActT), po = some ⟨b, off, none⟩ ∧ t.key.size ≤ maxLen ∧ Bts w t.vo t.bs ∧ t.bs.length ≤ t.c ∧ t.c ≤ maxLen ∧ t.want < 18446744073709551616 ∧ t.own < 18446744073709551616 ∧
    ∀ w', Below w.heap.size w w' → w'.cell? ⟨b, off + k * 5, none⟩ = some (.int .u8 (t.kind.toNat : Int)) ∧ w'.cell? ⟨b, off + k * 5 + 1, none⟩ = some (.string t.key) ∧ w'.cell? ⟨b, off + k * 5 + 2, none⟩ = some (.slice t.vo t.bs.length t.c) ∧ w'.cell? ⟨b, off + k * 5 + 3, none⟩ = some (.int .u64 (t.want : Int)) ∧ w'.cell? ⟨b, off + k * 5 + 4, none⟩ = some (.int .u64 (t.own : Int)) := by
  obtain ⟨zb, zoff, rfl, hz1⟩ := h (by omega)
  obtain ⟨es, hes, ⟨rfl, hx1, hx2, hx3, hx4, hx5, hx6⟩, hcell⟩ := hz1 k hk
  refine ⟨zb, zoff, ps[k], rfl, hx1, hx2, hx3, hx4, hx5, hx6, fun w' hb => ?_⟩
  have hC := Chg.of_below hb (fun _ => False)
  have c0 := hC.cell (hcell 0 _ rfl) (fun h => h)
  have c1 := hC.cell (hcell 1 _ rfl) (fun h => h)
  have c2 := hC.cell (hcell 2 _ rfl) (fun h => h)
  have c3 := hC.cell (hcell 3 _ rfl) (fun h => h)
  have c4 := hC.cell (hcell 4 _ rfl) (fun h => h)
  simp only [Nat.add_zero] at c0
  exact ⟨c0, c1, c2, c3, c4⟩
/-- A law's tree, and a box beside it. -/
structure TreeBox (w0 w : World) (p : Nat) (ps : List Pl) (F : List Nat) (T : Nat) (o : Obj) : Prop where
  tree : TreeIn w0 w p ps F
  act : w.heap[T]? = some o
  tf : T ∉ F
section
variable {w0 w w' : World} {p T : Nat} {ps ps' : List Pl} {F F' : List Nat} {o : Obj}
theorem TreeIn.box (h : TreeIn w0 w p ps F) (o : Obj) : TreeBox w0 (w.alloc o) p ps F w.heap.size o :=
  ⟨h.alloc o, heap_top w o, fun hk => Nat.lt_irrefl _ (h.tree.lt _ hk)⟩
theorem TreeBox.stays (h : TreeBox w0 w p ps F T o) (hb : Below w.heap.size w w') : TreeBox w0 w' p ps F T o :=
  ⟨h.tree.stays hb, (Chg.of_below hb (fun _ => False)).heap h.act (fun h => h), h.tf⟩
theorem TreeBox.drew (h : TreeBox w0 w p ps F T o) : TreeBox w0 w.drew p ps F T o := h.stays (Below.refl _ w).drew
theorem TreeBox.step (h : TreeBox w0 w p ps F T o) (hw : Wrote w w' p ps' F) (hf : Fine ps') : ∃ F', TreeBox w0 w' p ps' F' T o := by
  obtain ⟨F', h1, h2, h3⟩ := h.tree.wrote hw hf
  refine ⟨F', h1, h2.heap h.act h.tf, fun hk => ?_⟩
  rcases h3 T hk with h4 | h4
  · exact h.tf h4
  · have := heap_lt h.act; omega
end
theorem put_box (w0 : World) (p : Nat) (ps : List Pl) (F : List Nat) (T : Nat) (o : Obj) (key : ByteArray) (vo : Option Addr) (m c : Nat) (val : List UInt8) (want own : Nat) (w : World) (h : TreeBox w0 w p ps F T o) (hv : Bts w vo val) (hm : val.length = m) (hw : want < 18446744073709551616) (ho : own < 18446744073709551616) :
    Calls Try.prog 12 #[.pointer (some ⟨p, 0, none⟩), .string key, .slice vo m c, .int .u64 (want : Int), .int .u64 (own : Int)] w fun r w' => r = .returned (.tuple #[.int .u64 ((putP ps key val want own).2.1 : Int), .int .i64 (putP ps key val want own).2.2]) ∧ ∃ F', TreeBox w0 w' p (putP ps key val want own).1 F' T o := by
  refine (put_all p ps F key vo m c val want own w h.tree.tree h.tree.fine hv hm hw).mono ?_
  rintro r w' ⟨rfl, hw⟩
  exact ⟨rfl, h.step hw (h.tree.fine.puts key val want own ho)⟩
/-- What a tree is behind n puts. -/
structure Nice (ps : List Pl) (n : Nat) : Prop where
  ver : ∀ x ∈ ps, 1 ≤ x.ver ∧ x.ver ≤ n
  key : ∀ x ∈ ps, x.key.size ≠ 0 ∧ x.key.size ≤ 64
theorem Nice.nil : Nice [] 0 := ⟨by simp, by simp⟩
theorem Nice.puts {ps : List Pl} {n : Nat} (h : Nice ps n) (key : ByteArray) (body : List UInt8) (want own : Nat) (hn : n < 9223372036854775807) : Nice (putP ps key body want own).1 (n + 1) := by
  have h' : Nice ps (n + 1) := ⟨fun x hx => ⟨(h.ver x hx).1, Nat.le_succ_of_le (h.ver x hx).2⟩, h.key⟩
  unfold putP
  split
  · exact h'
  · rename_i hk
    split
    · exact h'
    · split
      · split
        · exact h'
        · split
          · exact h'
          · refine ⟨fun x hx => ?_, fun x hx => ?_⟩
            · rcases insP_mem.1 hx with rfl | hx
              · exact ⟨Nat.le_refl _, by simp⟩
              · exact h'.ver x hx
            · rcases insP_mem.1 hx with rfl | hx
              · exact ⟨fun h => hk (.inl h), by simp only; omega⟩
              · exact h'.key x hx
      · rename_i y hy
        split
        · exact h'
        · split
          · exact h'
          · rename_i hw
            have hyv := h.ver y (look_mem hy)
            have hwe : want = y.ver := by simp at hw; exact hw.symm
            refine ⟨fun x hx => ?_, fun x hx => ?_⟩
            · rcases setP_mem hx with rfl | hx
              · simp only; omega
              · exact h'.ver x hx
            · rcases setP_mem hx with rfl | hx
              · exact ⟨fun h => hk (.inl h), by simp only; omega⟩
              · exact h'.key x hx
theorem acells5 {w : World} {T : Nat} {a b c d e : Value} {t : TypeId} (h : w.heap[T]? = some (.cells #[a, b, c, d, e] t (0, 0))) : w.cell? ⟨T, 1, none⟩ = some b ∧ w.cell? ⟨T, 2, none⟩ = some c ∧ w.cell? ⟨T, 3, none⟩ = some d ∧ w.cell? ⟨T, 4, none⟩ = some e := by
  have h1 := heap_cell h 1
  have h2 := heap_cell h 2
  have h3 := heap_cell h 3
  have h4 := heap_cell h 4
  simp at h1 h2 h3 h4
  exact ⟨h1, h2, h3, h4⟩
/-- Two lists that are picked out of nodes. -/
structure PickRel (w wr : World) (es : List Nd) (f g : Nd → Bool) (i j : Nat) (ao : Option Addr) (an ac : Nat) (bo : Option Addr) (bn bc : Nat) : Prop where
  below : Below w.heap.size w wr
  one : Own wr 4 ao an ac (((es.take i).filter f).flatMap Nd.cells)
  two : Own wr 4 bo bn bc (((es.take j).filter g).flatMap Nd.cells)
  new1 : ∀ a, ao = some a → w.heap.size ≤ a.block
  new2 : ∀ a, bo = some a → w.heap.size ≤ a.block
  apart : ∀ a b, ao = some a → bo = some b → a.block ≠ b.block
theorem PickRel.zero (w : World) (es : List Nd) (f g : Nd → Bool) : PickRel w w es f g 0 0 none 0 0 none 0 0 :=
  ⟨Below.refl _ _, Own.nil' _ _, Own.nil' _ _, by simp, by simp, by simp⟩
theorem filter_next {es : List Nd} {f : Nd → Bool} {j : Nat} {e : Nd} (he : es[j]? = some e) : (es.take (j + 1)).filter f = if f e then (es.take j).filter f ++ [e] else (es.take j).filter f := by
  rw [List.take_add_one, he, List.filter_append]
  cases h : f e <;> simp [h]
section
variable {w wr W w2 : World} {es : List Nd} {f g : Nd → Bool} {i j an ac bn bc xc : Nat} {ao bo xo : Option Addr} {e : Nd}
theorem PickRel.swap (h : PickRel w wr es f g i j ao an ac bo bn bc) : PickRel w wr es g f j i bo bn bc ao an ac :=
  ⟨h.below, h.two, h.one, h.new2, h.new1, fun a b ha hb e => h.apart b a hb ha e.symm⟩
theorem PickRel.stays (h : PickRel w wr es f g i j ao an ac bo bn bc) (hb : Below wr.heap.size wr W) : PickRel w W es f g i j ao an ac bo bn bc :=
  ⟨h.below.trans (hb.mono h.below.size), h.one.keep (Chg.of_below hb (fun _ => False)) (fun _ _ h => h), h.two.keep (Chg.of_below hb (fun _ => False)) (fun _ _ h => h), h.new1, h.new2, h.apart⟩
theorem PickRel.add1 (h : PickRel w wr es f g i j ao an ac bo bn bc) (he : es[i]? = some e) (hf : f e = true) (hb : Below wr.heap.size wr W) (hx : Own w2 4 xo (an + 1) xc (((es.take i).filter f).flatMap Nd.cells ++ e.cells)) (hch : Chg (fun k => ∃ a, ao = some a ∧ a.block = k) W w2) (hx2 : ∀ a', xo = some a' → ao = some a' ∨ W.heap.size ≤ a'.block) :
    PickRel w w2 es f g (i + 1) j xo (an + 1) xc bo bn bc := by
  have h' := h.stays hb
  have hs := hb.size
  have hs0 := h.below.size
  refine ⟨h'.below.trans (hch.below h'.below.size (fun k ⟨a, ha, e⟩ => e ▸ h.new1 a ha)), ?_, h'.two.keep hch (fun b hb ⟨a, ha, e⟩ => h.apart a b ha hb e), fun a ha => ?_, h.new2, fun a b ha hb => ?_⟩
  · rw [filter_next he, if_pos hf, List.flatMap_append, List.flatMap_cons, List.flatMap_nil, List.append_nil]; exact hx
  · rcases hx2 a ha with h1 | h1
    · exact h.new1 a h1
    · omega
  · rcases hx2 a ha with h1 | h1
    · exact h.apart a b h1 hb
    · have := (h'.two.at_ b hb).2.1; omega
theorem PickRel.skip1 (h : PickRel w wr es f g i j ao an ac bo bn bc) (he : es[i]? = some e) (hf : f e = false) : PickRel w wr es f g (i + 1) j ao an ac bo bn bc :=
  ⟨h.below, by rw [filter_next he, if_neg (by simp [hf])]; exact h.one, h.two, h.new1, h.new2, h.apart⟩
end
end Go.Proofs.Ytebhbfjnobcckaa
