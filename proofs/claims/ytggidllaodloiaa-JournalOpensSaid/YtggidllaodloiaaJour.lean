/-
  LAYER 5: a journal in memory; Open, Write, Lay; SameBytes.
-/
import Derived.Test.YtggidllaodloiaaJourP
import Derived.Test.YtggidllaodloiaaDisk
import Derived.StillTactics
namespace Go.Proofs.Ytggidllaodloiaa
open Go Go.RowKit

/-- Bytes in memory: where they lie. -/
structure BEnt where
  bs : List UInt8
  bo : Option Addr
  cap : Nat
def BEnt.cell (e : BEnt) : Value := .slice e.bo e.bs.length e.cap
theorem el_bs : ElemOf Try.prog 22 31 (.slice none 0 0) 1 24 := .mk' Try.underlying22 (by kernel_rfl) rfl (by decide)
theorem one_ent (es : List BEnt) : ∀ u ∈ es.map BEnt.cell, u.oneCell' = true := by
  intro u hu
  obtain ⟨e, _, rfl⟩ := List.mem_map.1 hu
  rfl
/-- A list of bytes; F: blocks of others. -/
structure Bodies (w : World) (lo : Option Addr) (n cap : Nat) (es : List BEnt) (F : List Nat) : Prop where
  own : Own w 1 lo n cap (es.map BEnt.cell)
  at_ : ∀ a, lo = some a → a.block ∉ F
  body : ∀ e ∈ es, Bts w e.bo e.bs
  out : ∀ e ∈ es, e.bs ≠ [] → ∀ a, e.bo = some a → a.block ∉ F ∧ ∀ b, lo = some b → a.block ≠ b.block
section
variable {w w' : World} {lo : Option Addr} {n cap : Nat} {es : List BEnt} {F F' : List Nat}
theorem bts_keep {S : Nat → Prop} {bo : Option Addr} {bs : List UInt8} (h : Bts w bo bs) (hc : Chg S w w') (hS : bs ≠ [] → ∀ a, bo = some a → ¬ S a.block) : Bts w' bo bs := by
  by_cases hz : bs = []
  · rw [hz]; exact Bts.nil _ _
  · exact hc.row h (fun a ha => hS hz a ha)
theorem Bodies.len (h : Bodies w lo n cap es F) : es.length = n := by
  have := h.own.len; rw [List.length_map] at this; omega
theorem Bodies.keep (h : Bodies w lo n cap es F) {S : Nat → Prop} (hc : Chg S w w') (hl : ∀ a, lo = some a → ¬ S a.block) (hb : ∀ e ∈ es, e.bs ≠ [] → ∀ a, e.bo = some a → ¬ S a.block) : Bodies w' lo n cap es F :=
  ⟨h.own.keep hc hl, h.at_, fun e he => bts_keep (h.body e he) hc (hb e he), h.out⟩
theorem Bodies.stays (h : Bodies w lo n cap es F) (hb : Below w.heap.size w w') : Bodies w' lo n cap es F :=
  h.keep (Chg.of_below hb (fun _ => False)) (fun _ _ h => h) (fun _ _ _ _ _ h => h)
theorem Bodies.other (h : Bodies w lo n cap es F) (hc : Chg (· ∈ F) w w') (hg : Grew w F F') : Bodies w' lo n cap es F' := by
  have h1 := h.keep hc h.at_ (fun e he hz a ha => (h.out e he hz a ha).1)
  refine ⟨h1.own, fun a ha hk => ?_, h1.body, fun e he hz a ha => ⟨fun hk => ?_, (h.out e he hz a ha).2⟩⟩
  · rcases hg _ hk with hk | hk
    · exact h.at_ a ha hk
    · have := (h.own.at_ a ha).2.1; omega
  · rcases hg _ hk with hk | hk
    · exact (h.out e he hz a ha).1 hk
    · have := bts_lt (h.body e he) hz a ha; omega
theorem Bodies.snoc {lo' : Option Addr} {cap' : Nat} {e : BEnt} {o : Obj} (h : Bodies w lo n cap es F) (hF : ∀ k ∈ F, k < w.heap.size) (hb : Bts w e.bo e.bs) (ho : e.bs ≠ [] → ∀ a, e.bo = some a → a.block ∉ F ∧ ∀ b, lo = some b → a.block ≠ b.block)
    (hx : Own w' 1 lo' (n + 1) cap' (es.map BEnt.cell ++ [e.cell])) (hc : Chg (fun k => ∃ a, lo = some a ∧ a.block = k) (w.alloc o) w') (hx2 : ∀ a', lo' = some a' → lo = some a' ∨ (w.alloc o).heap.size ≤ a'.block) : Bodies w' lo' (n + 1) cap' (es ++ [e]) F := by
  have hA := (Chg.refl (fun k => ∃ a, lo = some a ∧ a.block = k) w).alloc o
  have hC := hA.trans hc (fun _ _ h => h)
  have hall : ∀ x ∈ es ++ [e], Bts w x.bo x.bs ∧ (x.bs ≠ [] → ∀ a, x.bo = some a → a.block ∉ F ∧ ∀ b, lo = some b → a.block ≠ b.block) := by
    intro x hx
    rcases List.mem_append.1 hx with hx | hx
    · exact ⟨h.body x hx, h.out x hx⟩
    · rw [List.mem_singleton] at hx; subst hx; exact ⟨hb, ho⟩
  have hsz : w.heap.size ≤ (w.alloc o).heap.size := by rw [size_alloc]; omega
  refine ⟨by rw [List.map_append]; exact hx, fun a ha hk => ?_, fun x hx => bts_keep (hall x hx).1 hC (fun hz a ha ⟨b, hb, e⟩ => ((hall x hx).2 hz a ha).2 b hb e.symm), fun x hx hz a ha => ⟨((hall x hx).2 hz a ha).1, fun b hb e => ?_⟩⟩
  · rcases hx2 a ha with h' | h'
    · exact h.at_ a h' hk
    · have := hF _ hk; omega
  · rcases hx2 b hb with h' | h'
    · exact ((hall x hx).2 hz a ha).2 b h' e
    · have := bts_lt (hall x hx).1 hz a ha; omega
end
/-- A list of bytes, to be read. -/
def BytesRow (w : World) (lo : Option Addr) (es : List BEnt) : Prop := Row w lo (es.map BEnt.cell) ∧ ∀ e ∈ es, Bts w e.bo e.bs
theorem Bodies.row {w : World} {lo : Option Addr} {n cap : Nat} {es : List BEnt} {F : List Nat} (h : Bodies w lo n cap es F) : BytesRow w lo es := ⟨h.own.row, h.body⟩
theorem BytesRow.below {w w' : World} {lo : Option Addr} {es : List BEnt} (h : BytesRow w lo es) (hb : Below w.heap.size w w') : BytesRow w' lo es := ⟨h.1.below hb, fun e he => (h.2 e he).below hb⟩
theorem BytesRow.take {w : World} {lo : Option Addr} {es : List BEnt} (h : BytesRow w lo es) (k : Nat) : BytesRow w lo (es.take k) := ⟨by rw [List.map_take]; exact h.1.take k, fun e he => h.2 e (List.mem_of_mem_take he)⟩
theorem BytesRow.at {w : World} {lo : Option Addr} {es : List BEnt} {i : Nat} {e : BEnt} (h : BytesRow w lo es) (hi : es[i]? = some e) : ∃ b off, lo = some ⟨b, off, none⟩ ∧ w.cell? ⟨b, off + i, none⟩ = some (.slice e.bo e.bs.length e.cap) ∧ Bts w e.bo e.bs := by
  have hne : es.map BEnt.cell ≠ [] := by intro h0; rw [List.map_eq_nil_iff] at h0; rw [h0] at hi; simp at hi
  obtain ⟨b, off, rfl, hc⟩ := h.1 hne
  exact ⟨b, off, rfl, hc i _ (by rw [List.getElem?_map, hi]; rfl), h.2 e (List.mem_of_getElem? hi)⟩
set_option maxHeartbeats 2000000 in
set_option maxRecDepth 100000 in
theorem same_bytes (ao bo : Option Addr) (n c d : Nat) (es fs : List BEnt) (w : World) (h1 : BytesRow w ao es) (h2 : BytesRow w bo fs) (hn1 : es.length = n) (hn2 : fs.length = n) (hm : es.map BEnt.bs = fs.map BEnt.bs) (hn : n ≤ 1000000) :
    Calls Try.prog 14 #[.slice ao n c, .slice bo n d] w fun e w' => e = .returned (.bool true) ∧ Below w.heap.size w w' := by
  have HH := Lib.hid (And.intro h1 (And.intro h2 (And.intro hn1 (And.intro hn2 hm))))
  clear h1 h2 hn1 hn2 hm
  go_enter Try.func14, Try.ntmps14
  go_wp2
  go_loopg [5] n (fun g v wr => ∃ k : Nat, g + k = n ∧ v = .int .i64 k ∧ Below w.heap.size w wr)
  case atStart => exact ⟨0, by omega, rfl, Below.refl _ _⟩
  case round =>
    obtain ⟨k, hgk, rfl, hb⟩ := hrel
    by_cases hk : k < n
    · obtain ⟨e, he⟩ : ∃ e, es[k]? = some e := ⟨_, List.getElem?_eq_getElem (by rw [HH.out.2.2.1]; exact hk)⟩
      obtain ⟨f, hf⟩ : ∃ f, fs[k]? = some f := ⟨_, List.getElem?_eq_getElem (by rw [HH.out.2.2.2.1]; exact hk)⟩
      have hef : e.bs = f.bs := by
        have h := congrArg (·[k]?) HH.out.2.2.2.2
        simp only [List.getElem?_map, he, hf, Option.map_some] at h
        exact Option.some.inj h
      obtain ⟨b1, o1, rfl, c0, c3⟩ := (HH.out.1.below hb).at he
      obtain ⟨b2, o2, rfl, d0, d3⟩ := (HH.out.2.1.below hb).at hf
      rw [← hef] at d0 d3
      obtain ⟨xs, xo, xc⟩ := e
      obtain ⟨fm, yo, yc⟩ := f
      dsimp only at *
      have ks : ((strOf xs).toList == (strOf xs).toList) = true := by simp
      have kx := conv_bytes wr.drew Try.underlying31 Try.underlying5 Try.underlying9 xo _ xc xs rfl c3.drew
      have ky := conv_bytes wr.drew Try.underlying31 Try.underlying5 Try.underlying9 yo _ yc xs rfl d3.drew
      have hki : (k : Int) < (n : Int) := by omega
      have hk0 : (0 : Int) ≤ (k : Int) := by omega
      have HB := Lib.hid (hb.drew)
      clear hb he hf hef c3 d3
      go_wp2
      go_still (by kernel_rfl)
      go_wp2
      go_roundg (gk - 1)
      case measure => omega
      case rel => exact ⟨k + 1, by omega, by go_num, HB.out⟩
    · have HB := Lib.hid hb
      clear hb
      go_wp2
      go_ret
      exact ⟨rfl, HB.out⟩
/-! ### the journal -/
/-- A journal at block j, on the disk d at block p. -/
structure JourAt (w : World) (j p : Nat) (d : Dsk) (F : List Nat) : Prop where
  disk : DiskAt 50 w p d F
  jr : w.heap[j]? = some (.cells #[.pointer (some ⟨p, 0, none⟩)] 55 (0, 0))
  out : j ∉ F
section
variable {w w' : World} {j p : Nat} {d d' : Dsk} {F F' : List Nat}
theorem JourAt.wrote (h : JourAt w j p d F) (hd : DiskAt 50 w' p d' F') (hc : Chg (· ∈ F) w w') (hg : Grew w F F') : JourAt w' j p d' F' :=
  ⟨hd, hc.heap h.jr h.out, fun hk => (hg _ hk).elim h.out (fun h' => by have := heap_lt h.jr; omega)⟩
theorem JourAt.stays (h : JourAt w j p d F) (hb : Below w.heap.size w w') : JourAt w' j p d F :=
  ⟨h.disk.keep (Chg.of_below hb (fun _ => False)) (fun _ _ h => h), (Chg.of_below hb (fun _ => False)).heap h.jr (fun h => h), h.out⟩
end
/-- What comes of a call on a disk. -/
def DiskDid (w : World) (p : Nat) (d' : Dsk) (F : List Nat) (w' : World) : Prop := ∃ F', DiskAt 50 w' p d' F' ∧ Chg (· ∈ F) w w' ∧ Grew w F F'
theorem DiskDid.same {w w' : World} {p : Nat} {d : Dsk} {F : List Nat} (h : DiskAt 50 w p d F) (hb : Below w.heap.size w w') : DiskDid w p d F w' :=
  ⟨F, h.keep (Chg.of_below hb (fun _ => False)) (fun _ _ h => h), Chg.of_below hb _, Grew.refl _ _⟩
theorem DiskDid.trans {w w1 w2 : World} {p : Nat} {d2 : Dsk} {F F1 : List Nat} (hg1 : Grew w F F1) (hc1 : Chg (· ∈ F) w w1) (hF : ∀ k ∈ F, k < w.heap.size) (h2 : DiskDid w1 p d2 F1 w2) : DiskDid w p d2 F w2 := by
  obtain ⟨F2, hd2, hc2, hg2⟩ := h2
  refine ⟨F2, hd2, hc1.trans hc2 (fun i hi hk => (hg1 i hk).elim id (fun h => by omega)), fun k hk => ?_⟩
  rcases hg2 k hk with h | h
  · exact hg1 k h
  · exact .inr (Nat.le_trans hc1.size h)
theorem lay_any (j p : Nat) (d : Dsk) (F : List Nat) (bo : Option Addr) (n c : Nat) (bs : List UInt8) (code : Int) (d' : Dsk) (w : World) (h : JourAt w j p d F) (hl : bs.length = n) (hb : Bts w bo bs) (hn : n ≤ 4096) (ha : d.append (frame bs) = (code, d')) :
    Calls Try.prog 12 #[.pointer (some ⟨j, 0, none⟩), .slice bo n c] w fun e w' => e = .returned (.int .i64 code) ∧ DiskDid w p d' F w' := by
  have HH := Lib.hid (And.intro h (And.intro hl (And.intro hb ha)))
  have HFL := Lib.hid (show (frame bs).length = n + 8 by rw [frame_len, hl])
  clear h hl hb ha
  go_enter Try.func12, Try.ntmps12
  go_wp2_with (first
    | (go_at_call 23; (with_reducible refine (frame_any bo n c (n + 8) bs _ HH.out.2.1 hn HH.out.2.2.1 rfl).mono ?_); rintro e1 w1 ⟨fo, fc, rfl, hw1, ho, _⟩; have hj1 := HH.out.1.stays hw1; obtain ⟨z0, _⟩ := cells1 hj1.jr; have H1 := Lib.hid (And.intro hj1 (And.intro hw1 ho.bts)); clear hj1 hw1 ho)
    | (go_at_call 15; (with_reducible refine (append_any p d F fo (n + 8) fc (frame bs) _ H1.out.1.disk HFL.out H1.out.2.2).mono ?_); rintro e2 w2 ⟨rfl, hd⟩; rw [HH.out.2.2.2] at hd ⊢; have H2 := Lib.hid hd; clear hd))
  go_ret
  obtain ⟨F', h1, h2, h3⟩ := H2.out
  exact ⟨rfl, DiskDid.trans (F1 := F) (Grew.refl _ _) (Chg.of_below H1.out.2.1 _) HH.out.1.disk.lt ⟨F', h1, h2, h3⟩⟩
theorem lay_long (j p : Nat) (d : Dsk) (F : List Nat) (bo : Option Addr) (n c : Nat) (w : World) (h : JourAt w j p d F) (hn : 4096 < n) (hm : n ≤ 1000000) :
    Calls Try.prog 12 #[.pointer (some ⟨j, 0, none⟩), .slice bo n c] w fun e w' => e = .returned (.int .i64 3) ∧ w = w' := by
  go_enter Try.func12, Try.ntmps12
  go_wp2_with (go_at_call 23; (with_reducible refine (frame_long bo n c _ hn hm).mono ?_); rintro e1 w1 ⟨rfl, rfl⟩)
  go_ret
  exact ⟨rfl, rfl⟩
theorem write_ok (j p : Nat) (d : Dsk) (F : List Nat) (bo : Option Addr) (n c : Nat) (bs : List UInt8) (w : World) (h : JourAt w j p d F) (hl : bs.length = n) (hb : Bts w bo bs) (hn : n ≤ 4096) (ha : n + 8 ≤ d.room - d.b.length) :
    Calls Try.prog 11 #[.pointer (some ⟨j, 0, none⟩), .slice bo n c] w fun e w' => e = .returned (.int .i64 0) ∧ DiskDid w p ⟨d.room, (d.b ++ frame bs).length, d.b ++ frame bs⟩ F w' := by
  have HFL := Lib.hid (show (frame bs).length = n + 8 by rw [frame_len, hl])
  have HAP := Lib.hid (show d.append (frame bs) = (0, ⟨d.room, d.sure, d.b ++ frame bs⟩) by rw [Dsk.append, if_neg (by rw [HFL.out]; omega)])
  have HH := Lib.hid (And.intro h (And.intro hl hb))
  clear h hl hb ha
  go_enter Try.func11, Try.ntmps11
  go_wp2_with (first
    | (go_at_call 23; (with_reducible refine (frame_any bo n c (n + 8) bs _ HH.out.2.1 hn HH.out.2.2 rfl).mono ?_); rintro e1 w1 ⟨fo, fc, rfl, hw1, ho, _⟩; have hj1 := HH.out.1.stays hw1; obtain ⟨z0, _⟩ := cells1 hj1.jr; have H1 := Lib.hid (And.intro hj1 (And.intro hw1 ho.bts)); clear hj1 hw1 ho)
    | (go_at_call 15; (with_reducible refine (append_any p d F fo (n + 8) fc (frame bs) _ H1.out.1.disk HFL.out H1.out.2.2).mono ?_); rintro e2 w2 ⟨rfl, F2, g1, g2, g3⟩; rw [HAP.out] at g1 ⊢; have hj2 := H1.out.1.wrote g1 g2 g3; obtain ⟨y0, _⟩ := cells1 hj2.jr; have H2 := Lib.hid (And.intro hj2 (And.intro g2 g3)); clear g1 g2 g3 hj2)
    | (go_at_call 16; (with_reducible refine (sync_any p _ F2 _ H2.out.1.disk).mono ?_); rintro e3 w3 ⟨rfl, hd⟩; have H3 := Lib.hid hd; clear hd))
  go_ret
  obtain ⟨F', h1, h2, h3⟩ := H3.out
  exact ⟨rfl, DiskDid.trans (F1 := F) (Grew.refl _ _) (Chg.of_below H1.out.2.1 _) HH.out.1.disk.lt (DiskDid.trans H2.out.2.2 H2.out.2.1 H1.out.1.disk.lt ⟨F', h1, h2, h3⟩)⟩
theorem write_full (j p : Nat) (d : Dsk) (F : List Nat) (bo : Option Addr) (n c : Nat) (bs : List UInt8) (w : World) (h : JourAt w j p d F) (hl : bs.length = n) (hb : Bts w bo bs) (hn : n ≤ 4096) (ha : d.room - d.b.length < n + 8) :
    Calls Try.prog 11 #[.pointer (some ⟨j, 0, none⟩), .slice bo n c] w fun e w' => e = .returned (.int .i64 8) ∧ DiskDid w p d F w' := by
  have HFL := Lib.hid (show (frame bs).length = n + 8 by rw [frame_len, hl])
  have HAP := Lib.hid (show d.append (frame bs) = (8, d) by rw [Dsk.append, if_pos (by rw [HFL.out]; exact ha)])
  have HH := Lib.hid (And.intro h (And.intro hl hb))
  clear h hl hb ha
  go_enter Try.func11, Try.ntmps11
  go_wp2_with (first
    | (go_at_call 23; (with_reducible refine (frame_any bo n c (n + 8) bs _ HH.out.2.1 hn HH.out.2.2 rfl).mono ?_); rintro e1 w1 ⟨fo, fc, rfl, hw1, ho, _⟩; have hj1 := HH.out.1.stays hw1; obtain ⟨z0, _⟩ := cells1 hj1.jr; have H1 := Lib.hid (And.intro hj1 (And.intro hw1 ho.bts)); clear hj1 hw1 ho)
    | (go_at_call 15; (with_reducible refine (append_any p d F fo (n + 8) fc (frame bs) _ H1.out.1.disk HFL.out H1.out.2.2).mono ?_); rintro e2 w2 ⟨rfl, F2, g1, g2, g3⟩; rw [HAP.out] at g1 ⊢; have H2 := Lib.hid (And.intro g1 (And.intro g2 g3)); clear g1 g2 g3))
  go_ret
  obtain ⟨h1, h2, h3⟩ := H2.out
  exact ⟨rfl, DiskDid.trans (F1 := F) (Grew.refl _ _) (Chg.of_below H1.out.2.1 _) HH.out.1.disk.lt ⟨F2, h1, h2, h3⟩⟩
theorem write_long (j p : Nat) (d : Dsk) (F : List Nat) (bo : Option Addr) (n c : Nat) (w : World) (h : JourAt w j p d F) (hn : 4096 < n) (hm : n ≤ 1000000) :
    Calls Try.prog 11 #[.pointer (some ⟨j, 0, none⟩), .slice bo n c] w fun e w' => e = .returned (.int .i64 3) ∧ w = w' := by
  go_enter Try.func11, Try.ntmps11
  go_wp2_with (go_at_call 23; (with_reducible refine (frame_long bo n c _ hn hm).mono ?_); rintro e1 w1 ⟨rfl, rfl⟩)
  go_ret
  exact ⟨rfl, rfl⟩
end Go.Proofs.Ytggidllaodloiaa
