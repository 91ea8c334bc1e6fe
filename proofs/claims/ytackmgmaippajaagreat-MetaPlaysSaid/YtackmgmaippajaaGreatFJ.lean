/-
  JOINED BY fam.py out of: JourP, Jour, JourO.
-/
import Derived.Test.YtackmgmaippajaaGreatFPb
import Derived.Test.YtackmgmaippajaaGreatFD
import Derived.StillTactics
import Derived.Outline
import Derived.Test.YtackmgmaippajaaGreatFD
-- part JourP
namespace Go.Proofs.YtackmgmaippajaaGreat.Jr
set_option maxRecDepth 100000
open Go Go.RowKit

theorem unf_frame (x r : List UInt8) (h : x.length ≤ 4096) : unf (frame x ++ r) = (x, r, 0) := by
  have hS := (crc x).isLt
  have e : frame x ++ r = be 4 x.length ++ (be 4 (crc x).toNat ++ (x ++ r)) := by unfold frame; simp only [List.append_assoc]
  have h8 : ¬ (frame x ++ r).length < 8 := by rw [List.length_append, frame_len]; omega
  have h1 : (frame x ++ r).take 4 = be 4 x.length := by rw [e]; exact be_take 4 _ _
  have h2 : (frame x ++ r).drop 4 = be 4 (crc x).toNat ++ (x ++ r) := by rw [e]; exact be_drop' 4 _ _
  have h3 : ((frame x ++ r).drop 4).take 4 = be 4 (crc x).toNat := by rw [h2]; exact be_take 4 _ _
  have h4 : (frame x ++ r).drop 8 = x ++ r := by
    rw [show (8 : Nat) = 4 + 4 from rfl, ← List.drop_drop, h2]; exact be_drop' 4 _ _
  have hx : (x ++ r).take x.length = x := by simp
  have hr : (x ++ r).drop x.length = r := by simp
  unfold unf
  rw [if_neg h8, h1, h3, h4, ube_be, ube_be, Nat.mod_eq_of_lt (show x.length < 256 ^ 4 by omega), Nat.mod_eq_of_lt (show (crc x).toNat < 256 ^ 4 by omega), hx, hr, if_neg (by omega), if_neg (by simp), if_pos rfl]
theorem unf_ok {b : List UInt8} (h : (unf b).2.2 = 0) : b = frame (unf b).1 ++ (unf b).2.1 ∧ (unf b).1.length ≤ 4096 := by
  by_cases h8 : b.length < 8
  · simp [unf, h8] at h
  · by_cases h1 : 4096 < ube (b.take 4)
    · simp [unf, h8, h1] at h
    · by_cases h2 : (b.drop 8).length < ube (b.take 4)
      · rw [unf, if_neg h8, if_neg h1, if_pos h2] at h; simp at h
      · by_cases h3 : (crc ((b.drop 8).take (ube (b.take 4)))).toNat = ube ((b.drop 4).take 4)
        · have e8 := bytes_eight b (by omega)
          have hxl : ((b.drop 8).take (ube (b.take 4))).length = ube (b.take 4) := by rw [List.length_take]; omega
          rw [unf, if_neg h8, if_neg h1, if_neg h2, if_pos h3]
          refine ⟨?_, by simp only [hxl]; omega⟩
          unfold frame
          rw [hxl, h3, List.append_assoc, List.take_append_drop, List.append_assoc, ← e8]
        · rw [unf, if_neg h8, if_neg h1, if_neg h2, if_neg h3] at h; simp at h
def frames (l : List (List UInt8)) : List UInt8 := l.flatMap frame
theorem frames_cons (x : List UInt8) (l : List (List UInt8)) : frames (x :: l) = frame x ++ frames l := rfl
theorem frames_app (l m : List (List UInt8)) : frames (l ++ m) = frames l ++ frames m := by simp [frames]
theorem frames_one (x : List UInt8) : frames [x] = frame x := by simp [frames]
/-- The records with which bytes begin, and what is left: that begins with none. -/
structure Recs (b : List UInt8) (L : List (List UInt8)) (r : List UInt8) : Prop where
  is : b = frames L ++ r
  short : ∀ x ∈ L, x.length ≤ 4096
  rest : (unf r).2.2 ≠ 0
theorem recs_ex : ∀ (n : Nat) (b : List UInt8), b.length ≤ n → ∃ L r, Recs b L r
  | 0, b, h => by
    have : b = [] := List.eq_nil_of_length_eq_zero (by omega)
    subst this
    exact ⟨[], [], ⟨rfl, by simp, by decide⟩⟩
  | n + 1, b, h => by
    by_cases h0 : (unf b).2.2 = 0
    · obtain ⟨e, hl⟩ := unf_ok h0
      have hlen := congrArg List.length e
      rw [List.length_append, frame_len] at hlen
      obtain ⟨L, r, h1⟩ := recs_ex n (unf b).2.1 (by omega)
      refine ⟨(unf b).1 :: L, r, ?_, ?_, h1.rest⟩
      · rw [frames_cons, List.append_assoc, ← h1.is]; exact e
      · intro x hx
        rcases List.mem_cons.1 hx with rfl | hx
        · exact hl
        · exact h1.short x hx
    · exact ⟨[], b, ⟨rfl, by simp, h0⟩⟩
theorem recs_unique : ∀ {L M : List (List UInt8)} {b r s : List UInt8}, Recs b L r → Recs b M s → L = M ∧ r = s
  | [], [], b, r, s, h1, h2 => ⟨rfl, by have e1 := h1.is; have e2 := h2.is; simp [frames] at e1 e2; rw [← e1, ← e2]⟩
  | [], y :: M, b, r, s, h1, h2 => by
    exfalso
    have e1 := h1.is
    have e2 := h2.is
    rw [frames_cons, List.append_assoc] at e2
    have e3 : r = frame y ++ (frames M ++ s) := by rw [← e2, e1]; simp [frames]
    exact h1.rest (by rw [e3, unf_frame _ _ (h2.short y (by simp))])
  | x :: L, [], b, r, s, h1, h2 => by
    exfalso
    have e1 := h1.is
    have e2 := h2.is
    rw [frames_cons, List.append_assoc] at e1
    have e3 : s = frame x ++ (frames L ++ r) := by rw [← e1, e2]; simp [frames]
    exact h2.rest (by rw [e3, unf_frame _ _ (h1.short x (by simp))])
  | x :: L, y :: M, b, r, s, h1, h2 => by
    have e1 := h1.is
    have e2 := h2.is
    rw [frames_cons, List.append_assoc] at e1 e2
    have u1 := unf_frame x (frames L ++ r) (h1.short x (by simp))
    have u2 := unf_frame y (frames M ++ s) (h2.short y (by simp))
    rw [← e1] at u1
    rw [← e2] at u2
    rw [u1] at u2
    simp at u2
    obtain ⟨rfl, e3⟩ := u2
    obtain ⟨rfl, rfl⟩ := recs_unique (b := frames L ++ r) ⟨rfl, fun z hz => h1.short z (by simp [hz]), h1.rest⟩ ⟨e3, fun z hz => h2.short z (by simp [hz]), h2.rest⟩
    exact ⟨rfl, rfl⟩
end Go.Proofs.YtackmgmaippajaaGreat.Jr
-- part Jour
namespace Go.Proofs.YtackmgmaippajaaGreat.Jr
set_option maxRecDepth 100000
open Go Go.RowKit

/-- Bytes in memory: where they lie. -/
structure BEnt where
  bs : List UInt8
  bo : Option Addr
  cap : Nat
def BEnt.cell (e : BEnt) : Value := .slice e.bo e.bs.length e.cap
theorem el_bs : ElemOf Tryz.prog 22 25 (.slice none 0 0) 1 24 := .mk' Tryz.underlying22 (by kernel_rfl) rfl (by decide)
theorem one_ent (es : List BEnt) : ∀ u ∈ es.map BEnt.cell, u.oneCell' = true := by
  intro u hu
  obtain ⟨e, _, rfl⟩ := List.mem_map.1 hu
  rfl
/-- A list of bytes; F: blocks of others. -/
structure Bodies (w : World) (lo : Option Addr) (n cap : Nat) (es : List BEnt) (F : List Nat) : Prop where
  own : Own w 1 lo n cap (es.map BEnt.cell)
  at_ : ∀ a, lo = some a → a.block ∉ F
  body : ∀ e ∈ es, Bts w e.bo e.bs
  out : ∀ e ∈ es, e.bs ≠ [] → ∀ a, e.bo = some a → a.block ∉ F ∧ ∀ b, lo = some b → a.block ≠ b.block
section
variable {w w' : World} {lo : Option Addr} {n cap : Nat} {es : List BEnt} {F F' : List Nat}
theorem bts_keep {S : Nat → Prop} {bo : Option Addr} {bs : List UInt8} (h : Bts w bo bs) (hc : Chg S w w') (hS : bs ≠ [] → ∀ a, bo = some a → ¬ S a.block) : Bts w' bo bs := by
  by_cases hz : bs = []
  · rw [hz]; exact Bts.nil _ _
  · exact hc.row h (fun a ha => hS hz a ha)
theorem Bodies.len (h : Bodies w lo n cap es F) : es.length = n := by
  have := h.own.len; rw [List.length_map] at this; omega
theorem Bodies.keep (h : Bodies w lo n cap es F) {S : Nat → Prop} (hc : Chg S w w') (hl : ∀ a, lo = some a → ¬ S a.block) (hb : ∀ e ∈ es, e.bs ≠ [] → ∀ a, e.bo = some a → ¬ S a.block) : Bodies w' lo n cap es F :=
  ⟨h.own.keep hc hl, h.at_, fun e he => bts_keep (h.body e he) hc (hb e he), h.out⟩
theorem Bodies.stays (h : Bodies w lo n cap es F) (hb : Below w.heap.size w w') : Bodies w' lo n cap es F :=
  h.keep (Chg.of_below hb (fun _ => False)) (fun _ _ h => h) (fun _ _ _ _ _ h => h)
theorem Bodies.other (h : Bodies w lo n cap es F) (hc : Chg (· ∈ F) w w') (hg : Grew w F F') : Bodies w' lo n cap es F' := by
  have h1 := h.keep hc h.at_ (fun e he hz a ha => (h.out e he hz a ha).1)
  refine ⟨h1.own, fun a ha hk => ?_, h1.body, fun e he hz a ha => ⟨fun hk => ?_, (h.out e he hz a ha).2⟩⟩
  · rcases hg _ hk with hk | hk
    · exact h.at_ a ha hk
    · have := (h.own.at_ a ha).2.1; omega
  · rcases hg _ hk with hk | hk
    · exact (h.out e he hz a ha).1 hk
    · have := bts_lt (h.body e he) hz a ha; omega
theorem Bodies.snoc {lo' : Option Addr} {cap' : Nat} {e : BEnt} {o : Obj} (h : Bodies w lo n cap es F) (hF : ∀ k ∈ F, k < w.heap.size) (hb : Bts w e.bo e.bs) (ho : e.bs ≠ [] → ∀ a, e.bo = some a → a.block ∉ F ∧ ∀ b, lo = some b → a.block ≠ b.block)
    (hx : Own w' 1 lo' (n + 1) cap' (es.map BEnt.cell ++ [e.cell])) (hc : Chg (fun k => ∃ a, lo = some a ∧ a.block = k) (w.alloc o) w') (hx2 : ∀ a', lo' = some a' → lo = some a' ∨ (w.alloc o).heap.size ≤ a'.block) : Bodies w' lo' (n + 1) cap' (es ++ [e]) F := by
  have hA := (Chg.refl (fun k => ∃ a, lo = some a ∧ a.block = k) w).alloc o
  have hC := hA.trans hc (fun _ _ h => h)
  have hall : ∀ x ∈ es ++ [e], Bts w x.bo x.bs ∧ (x.bs ≠ [] → ∀ a, x.bo = some a → a.block ∉ F ∧ ∀ b, lo = some b → a.block ≠ b.block) := by
    intro x hx
    rcases List.mem_append.1 hx with hx | hx
    · exact ⟨h.body x hx, h.out x hx⟩
    · rw [List.mem_singleton] at hx; subst hx; exact ⟨hb, ho⟩
  have hsz : w.heap.size ≤ (w.alloc o).heap.size := by rw [size_alloc]; omega
  refine ⟨by rw [List.map_append]; exact hx, fun a ha hk => ?_, fun x hx => bts_keep (hall x hx).1 hC (fun hz a ha ⟨b, hb, e⟩ => ((hall x hx).2 hz a ha).2 b hb e.symm), fun x hx hz a ha => ⟨((hall x hx).2 hz a ha).1, fun b hb e => ?_⟩⟩
  · rcases hx2 a ha with h' | h'
    · exact h.at_ a h' hk
    · have := hF _ hk; omega
  · rcases hx2 b hb with h' | h'
    · exact ((hall x hx).2 hz a ha).2 b h' e
    · have := bts_lt (hall x hx).1 hz a ha; omega
end
/-- A list of bytes, to be read. -/
def BytesRow (w : World) (lo : Option Addr) (es : List BEnt) : Prop := Row w lo (es.map BEnt.cell) ∧ ∀ e ∈ es, Bts w e.bo e.bs
theorem Bodies.row {w : World} {lo : Option Addr} {n cap : Nat} {es : List BEnt} {F : List Nat} (h : Bodies w lo n cap es F) : BytesRow w lo es := ⟨h.own.row, h.body⟩
theorem BytesRow.below {w w' : World} {lo : Option Addr} {es : List BEnt} (h : BytesRow w lo es) (hb : Below w.heap.size w w') : BytesRow w' lo es := ⟨h.1.below hb, fun e he => (h.2 e he).below hb⟩
theorem BytesRow.take {w : World} {lo : Option Addr} {es : List BEnt} (h : BytesRow w lo es) (k : Nat) : BytesRow w lo (es.take k) := ⟨by rw [List.map_take]; exact h.1.take k, fun e he => h.2 e (List.mem_of_mem_take he)⟩
theorem BytesRow.at {w : World} {lo : Option Addr} {es : List BEnt} {i : Nat} {e : BEnt} (h : BytesRow w lo es) (hi : es[i]? = some e) : ∃ b off, lo = some ⟨b, off, none⟩ ∧ w.cell? ⟨b, off + i, none⟩ = some (.slice e.bo e.bs.length e.cap) ∧ Bts w e.bo e.bs := by
  have hne : es.map BEnt.cell ≠ [] := by intro h0; rw [List.map_eq_nil_iff] at h0; rw [h0] at hi; simp at hi
  obtain ⟨b, off, rfl, hc⟩ := h.1 hne
  exact ⟨b, off, rfl, hc i _ (by rw [List.getElem?_map, hi]; rfl), h.2 e (List.mem_of_getElem? hi)⟩
/-! ### the journal -/
/-- A journal at block j, on the disk d at block p. -/
structure JourAt (w : World) (j p : Nat) (d : Dsk) (F : List Nat) : Prop where
  disk : DiskAt 102 w p d F
  jr : w.heap[j]? = some (.cells #[.pointer (some ⟨p, 0, none⟩)] 130 (0, 0))
  out : j ∉ F
section
variable {w w' : World} {j p : Nat} {d d' : Dsk} {F F' : List Nat}
theorem JourAt.wrote (h : JourAt w j p d F) (hd : DiskAt 102 w' p d' F') (hc : Chg (· ∈ F) w w') (hg : Grew w F F') : JourAt w' j p d' F' :=
  ⟨hd, hc.heap h.jr h.out, fun hk => (hg _ hk).elim h.out (fun h' => by have := heap_lt h.jr; omega)⟩
theorem JourAt.stays (h : JourAt w j p d F) (hb : Below w.heap.size w w') : JourAt w' j p d F :=
  ⟨h.disk.keep (Chg.of_below hb (fun _ => False)) (fun _ _ h => h), (Chg.of_below hb (fun _ => False)).heap h.jr (fun h => h), h.out⟩
end
/-- What comes of a call on a disk. -/
def DiskDid (w : World) (p : Nat) (d' : Dsk) (F : List Nat) (w' : World) : Prop := ∃ F', DiskAt 102 w' p d' F' ∧ Chg (· ∈ F) w w' ∧ Grew w F F'
theorem DiskDid.same {w w' : World} {p : Nat} {d : Dsk} {F : List Nat} (h : DiskAt 102 w p d F) (hb : Below w.heap.size w w') : DiskDid w p d F w' :=
  ⟨F, h.keep (Chg.of_below hb (fun _ => False)) (fun _ _ h => h), Chg.of_below hb _, Grew.refl _ _⟩
theorem DiskDid.trans {w w1 w2 : World} {p : Nat} {d2 : Dsk} {F F1 : List Nat} (hg1 : Grew w F F1) (hc1 : Chg (· ∈ F) w w1) (_hF : ∀ k ∈ F, k < w.heap.size) (h2 : DiskDid w1 p d2 F1 w2) : DiskDid w p d2 F w2 := by
  obtain ⟨F2, hd2, hc2, hg2⟩ := h2
  refine ⟨F2, hd2, hc1.trans hc2 (fun i hi hk => (hg1 i hk).elim id (fun h => by omega)), fun k hk => ?_⟩
  rcases hg2 k hk with h | h
  · exact hg1 k h
  · exact .inr (Nat.le_trans hc1.size h)
theorem write_ok (j p : Nat) (d : Dsk) (F : List Nat) (bo : Option Addr) (n c : Nat) (bs : List UInt8) (w : World) (h : JourAt w j p d F) (hl : bs.length = n) (hb : Bts w bo bs) (hn : n ≤ 4096) (ha : n + 8 ≤ d.room - d.b.length) :
    Calls Tryz.prog 49 #[.pointer (some ⟨j, 0, none⟩), .slice bo n c] w fun e w' => e = .returned (.int .i64 0) ∧ DiskDid w p ⟨d.room, (d.b ++ frame bs).length, d.b ++ frame bs⟩ F w' := by
  have HFL := Lib.hid (show (frame bs).length = n + 8 by rw [frame_len, hl])
  have HAP := Lib.hid (show d.append (frame bs) = (0, ⟨d.room, d.sure, d.b ++ frame bs⟩) by rw [Dsk.append, if_neg (by rw [HFL.out]; omega)])
  have HH := Lib.hid (And.intro h (And.intro hl hb))
  clear h hl hb ha
  go_enter Tryz.func49, Tryz.ntmps49
  go_wp2_with (first
    | (go_at_call 87; (with_reducible refine (frame_any bo n c (n + 8) bs _ HH.out.2.1 hn HH.out.2.2 rfl).mono ?_); rintro e1 w1 ⟨fo, fc, rfl, hw1, ho, _⟩; have hj1 := HH.out.1.stays hw1; obtain ⟨z0, _⟩ := cells1 hj1.jr; have H1 := Lib.hid (And.intro hj1 (And.intro hw1 ho.bts)); clear hj1 hw1 ho)
    | (go_at_call 39; (with_reducible refine (append_any p d F fo (n + 8) fc (frame bs) _ H1.out.1.disk HFL.out H1.out.2.2).mono ?_); rintro e2 w2 ⟨rfl, F2, g1, g2, g3⟩; rw [HAP.out] at g1 ⊢; have hj2 := H1.out.1.wrote g1 g2 g3; obtain ⟨y0, _⟩ := cells1 hj2.jr; have H2 := Lib.hid (And.intro hj2 (And.intro g2 g3)); clear g1 g2 g3 hj2)
    | (go_at_call 65; (with_reducible refine (sync_any p _ F2 _ H2.out.1.disk).mono ?_); rintro e3 w3 ⟨rfl, hd⟩; have H3 := Lib.hid hd; clear hd))
  go_ret
  obtain ⟨F', h1, h2, h3⟩ := H3.out
  exact ⟨rfl, DiskDid.trans (F1 := F) (Grew.refl _ _) (Chg.of_below H1.out.2.1 _) HH.out.1.disk.lt (DiskDid.trans H2.out.2.2 H2.out.2.1 H1.out.1.disk.lt ⟨F', h1, h2, h3⟩)⟩
theorem write_full (j p : Nat) (d : Dsk) (F : List Nat) (bo : Option Addr) (n c : Nat) (bs : List UInt8) (w : World) (h : JourAt w j p d F) (hl : bs.length = n) (hb : Bts w bo bs) (hn : n ≤ 4096) (ha : d.room - d.b.length < n + 8) :
    Calls Tryz.prog 49 #[.pointer (some ⟨j, 0, none⟩), .slice bo n c] w fun e w' => e = .returned (.int .i64 8) ∧ DiskDid w p d F w' := by
  have HFL := Lib.hid (show (frame bs).length = n + 8 by rw [frame_len, hl])
  have HAP := Lib.hid (show d.append (frame bs) = (8, d) by rw [Dsk.append, if_pos (by rw [HFL.out]; exact ha)])
  have HH := Lib.hid (And.intro h (And.intro hl hb))
  clear h hl hb ha
  go_enter Tryz.func49, Tryz.ntmps49
  go_wp2_with (first
    | (go_at_call 87; (with_reducible refine (frame_any bo n c (n + 8) bs _ HH.out.2.1 hn HH.out.2.2 rfl).mono ?_); rintro e1 w1 ⟨fo, fc, rfl, hw1, ho, _⟩; have hj1 := HH.out.1.stays hw1; obtain ⟨z0, _⟩ := cells1 hj1.jr; have H1 := Lib.hid (And.intro hj1 (And.intro hw1 ho.bts)); clear hj1 hw1 ho)
    | (go_at_call 39; (with_reducible refine (append_any p d F fo (n + 8) fc (frame bs) _ H1.out.1.disk HFL.out H1.out.2.2).mono ?_); rintro e2 w2 ⟨rfl, F2, g1, g2, g3⟩; rw [HAP.out] at g1 ⊢; have H2 := Lib.hid (And.intro g1 (And.intro g2 g3)); clear g1 g2 g3))
  go_ret
  obtain ⟨h1, h2, h3⟩ := H2.out
  exact ⟨rfl, DiskDid.trans (F1 := F) (Grew.refl _ _) (Chg.of_below H1.out.2.1 _) HH.out.1.disk.lt ⟨F2, h1, h2, h3⟩⟩
theorem write_long (j p : Nat) (d : Dsk) (F : List Nat) (bo : Option Addr) (n c : Nat) (w : World) (_h : JourAt w j p d F) (hn : 4096 < n) (hm : n ≤ 1000000) :
    Calls Tryz.prog 49 #[.pointer (some ⟨j, 0, none⟩), .slice bo n c] w fun e w' => e = .returned (.int .i64 3) ∧ w = w' := by
  go_enter Tryz.func49, Tryz.ntmps49
  go_wp2_with (go_at_call 87; (with_reducible refine (frame_long bo n c _ hn hm).mono ?_); rintro e1 w1 ⟨rfl, rfl⟩)
  go_ret
  exact ⟨rfl, rfl⟩
end Go.Proofs.YtackmgmaippajaaGreat.Jr
-- part JourO
namespace Go.Proofs.YtackmgmaippajaaGreat.Jr
set_option maxRecDepth 100000
open Go Go.RowKit

/-- What Open gives. -/
def Opened (w : World) (p : Nat) (F : List Nat) (room : Nat) (L : List (List UInt8)) (e : Ending) (w' : World) : Prop :=
  ∃ j oo n cap es F', e = .returned (.tuple #[.pointer (some ⟨j, 0, none⟩), .slice oo n cap, .int .i64 0]) ∧ JourAt w' j p ⟨room, (frames L).length, frames L⟩ F' ∧ Bodies w' oo n cap es F' ∧ es.map BEnt.bs = L ∧
    Chg (· ∈ F) w w' ∧ Grew w F F' ∧ w.heap.size ≤ j ∧ (∀ a, oo = some a → w.heap.size ≤ a.block)
/-- What Open gives; each record's memory is as great as it says. -/
def Opened2 (w : World) (p : Nat) (F : List Nat) (room : Nat) (L : List (List UInt8)) (e : Ending) (w' : World) : Prop :=
  ∃ j oo n cap es F', e = .returned (.tuple #[.pointer (some ⟨j, 0, none⟩), .slice oo n cap, .int .i64 0]) ∧ JourAt w' j p ⟨room, (frames L).length, frames L⟩ F' ∧ Bodies w' oo n cap es F' ∧ es.map BEnt.bs = L ∧
    Chg (· ∈ F) w w' ∧ Grew w F F' ∧ w.heap.size ≤ j ∧ (∀ a, oo = some a → w.heap.size ≤ a.block) ∧ ∀ x ∈ es, x.bs.length ≤ x.cap ∧ x.cap ≤ maxLen
theorem open_nil (w : World) : Calls Tryz.prog 42 #[.pointer none] w fun e w' => e = .returned (.tuple #[.pointer none, .slice none 0 0, .int .i64 1]) ∧ w = w' := by
  go_enter Tryz.func42, Tryz.ntmps42
  go_wp2
  go_ret3
  exact ⟨rfl, rfl⟩
/-- The end of Open: what is behind the records is cut off; all is sure. -/
theorem open_end {w wr w2 w3 : World} {p : Nat} {d : Dsk} {F F2 : List Nat} {L : List (List UInt8)} {oo : Option Addr} {n cap : Nat} {es : List BEnt} (_hd : DiskAt 102 w p d F) (hb : Below w.heap.size w wr)
    (hB : Bodies wr oo n cap es F) (hes : es.map BEnt.bs = L) (hoo : ∀ a, oo = some a → w.heap.size ≤ a.block) (_h1 : DiskAt 102 w2 p ⟨d.room, min d.sure (frames L).length, frames L⟩ F2) (hc : Chg (· ∈ F) wr w2) (hg : Grew wr F F2)
    (h3 : DiskDid w2 p ⟨d.room, (frames L).length, frames L⟩ F2 w3) (hcp : ∀ x ∈ es, x.bs.length ≤ x.cap ∧ x.cap ≤ maxLen) : Opened2 w p F d.room L (.returned (.tuple #[.pointer (some ⟨w3.heap.size, 0, none⟩), .slice oo n cap, .int .i64 0])) (w3.alloc (.cells #[.pointer (some ⟨p, 0, none⟩)] 130)) := by
  obtain ⟨F3, h31, h32, h33⟩ := h3
  have hA : Below w3.heap.size w3 (w3.alloc (.cells #[.pointer (some ⟨p, 0, none⟩)] 130)) := (Below.refl _ _).alloc (Nat.le_refl _) _
  have hC := Chg.of_below hA (fun _ => False)
  have hsz : w.heap.size ≤ w3.heap.size := Nat.le_trans hb.size (Nat.le_trans hc.size h32.size)
  refine ⟨_, oo, n, cap, es, F3, rfl, ⟨h31.keep hC (fun _ _ h => h), heap_top _ _, fun hk => Nat.lt_irrefl _ (h31.lt _ hk)⟩, ((hB.other hc hg).other h32 h33).stays hA, hes, ?_, ?_, hsz, hoo, hcp⟩
  · refine ((Chg.of_below hb (· ∈ F)).trans hc (fun _ _ h => h)).trans (S' := (· ∈ F2)) ?_ (fun i hi hk => (hg i hk).elim id (fun h => by have := hb.size; omega))
    exact h32.trans (S' := fun _ => False) (hC) (fun _ _ h => h.elim)
  · intro k hk
    rcases h33 k hk with h | h
    · rcases hg k h with h | h
      · exact .inl h
      · exact .inr (Nat.le_trans hb.size h)
    · exact .inr (Nat.le_trans (Nat.le_trans hb.size hc.size) h)
theorem ent_new {w wr w1 : World} {F : List Nat} {oo xo : Option Addr} {n oc xc : Nat} {es : List BEnt} {x : List UInt8} (hd : ∀ k ∈ F, k < w.heap.size) (hb : Below w.heap.size w wr) (hB : Bodies wr oo n oc es F) (_hw1 : Below wr.heap.size wr w1) (hx : ∀ a, xo = some a → wr.heap.size ≤ a.block) :
    x ≠ [] → ∀ a, (BEnt.mk x xo xc).bo = some a → a.block ∉ F ∧ ∀ b, oo = some b → a.block ≠ b.block := by
  intro _ a ha
  have h1 := hx a ha
  refine ⟨fun hk => ?_, fun b hb' e => ?_⟩
  · have := hd _ hk; have := hb.size; omega
  · have := (hB.own.at_ b hb').2.1; omega
set_option maxHeartbeats 4000000 in
set_option maxRecDepth 100000 in
theorem open_any2 (p : Nat) (d : Dsk) (F : List Nat) (L : List (List UInt8)) (r : List UInt8) (w : World) (h : DiskAt 102 w p d F) (hr : Recs d.b L r) (hm : d.b.length ≤ 1000000) :
    Calls Tryz.prog 42 #[.pointer (some ⟨p, 0, none⟩)] w (Opened2 w p F d.room L) := by
  have HH := Lib.hid (And.intro h (And.intro hr hm))
  have hN : d.b.length ≤ 1000000 := hm
  clear h hr hm
  obtain ⟨N, hNe⟩ : ∃ N, d.b.length = N := ⟨_, rfl⟩
  have HN := Lib.hid hNe
  rw [hNe] at hN
  clear hNe
  go_enter Tryz.func42, Tryz.ntmps42
  go_wp2_with (go_at_call 17; (with_reducible refine (bytes_any p d F _ HH.out.1).mono ?_); rintro e1 w1 ⟨bo, bc, rfl, hw1, ho, _⟩; rw [HN.out] at ho ⊢; have hbc := ho.le; have hbm := ho.max; have H1 := Lib.hid (And.intro hw1 ho); clear hw1 ho)
  unfold maxLen at hbm
  go_loopg [5, 7] L.length (fun g v i wr => ∃ (L1 L2 : List (List UInt8)) (at_ : Nat) (oo : Option Addr) (n oc : Nat) (es : List BEnt), L = L1 ++ L2 ∧ g = L2.length ∧ v = .slice oo n oc ∧ i = .int .i64 (at_ : Int) ∧ (frames L1).length = at_ ∧ es.map BEnt.bs = L1 ∧ Bodies wr oo n oc es F ∧ (∀ a, oo = some a → w.heap.size ≤ a.block) ∧ Below w.heap.size w wr ∧ Bts wr bo d.b ∧ (d.b ≠ [] → ∀ a, bo = some a → ∀ b, oo = some b → b.block ≠ a.block) ∧ ∀ x ∈ es, x.bs.length ≤ x.cap ∧ x.cap ≤ maxLen)
  case atStart => exact ⟨[], L, 0, none, 0, 0, [], rfl, rfl, rfl, rfl, rfl, rfl, ⟨Own.nil' _ _, by simp, by simp, by simp⟩, by simp, H1.out.1, H1.out.2.bts, by simp, by simp⟩
  case round =>
    obtain ⟨L1, L2, at_, oo, n, oc, es, hL, hg, rfl, rfl, hat, hes, hB, hoo, hbw, hbt, hap, hcp⟩ := hrel
    have hlen : N = at_ + ((frames L2).length + r.length) := by
      have h1 := congrArg List.length HH.out.2.1.is
      rw [HN.out, hL, frames_app, List.length_append, List.length_append, hat] at h1
      omega
    have hdr : d.b.drop at_ = frames L2 ++ r := by
      rw [HH.out.2.1.is, hL, frames_app, List.append_assoc, ← hat]; simp
    have hn100 : n ≤ 200000 := by
      have h1 := hB.len
      have h2 : es.length = L1.length := by rw [← hes, List.length_map]
      have h3 : ∀ (M : List (List UInt8)), 8 * M.length ≤ (frames M).length := by
        intro M
        induction M with
        | nil => simp [frames]
        | cons x M ih => rw [frames_cons, List.length_append, frame_len, List.length_cons]; omega
      have h4 := h3 L1
      omega
    have HS := Lib.hid (And.intro hL (And.intro hat (And.intro hes (And.intro hB (And.intro hoo (And.intro hbw (And.intro hbt (And.intro hap hcp))))))))
    have hatN : at_ ≤ N := by omega
    have hati : (at_ : Int) ≤ (N : Int) := by omega
    have HLN := Lib.hid hlen
    clear hL hat hes hB hoo hbw hbt hap hcp
    cases L2 with
    | nil =>
      have hrr : d.b.drop at_ = r := by rw [hdr]; rfl
      have HR := Lib.hid (And.intro hrr (show r.length = N - at_ by have h1 := HLN.out; simp [frames] at h1; omega))
      have HC := Lib.hid (show d.cut (at_ : Int) = (0, ⟨d.room, min d.sure (frames L).length, frames L⟩) by
        have h1 : L1 = L := by have := HS.out.1; simpa using this.symm
        rw [Dsk.cut, if_neg (by rw [HN.out]; omega), Int.toNat_natCast, ← h1, HS.out.2.1]
        congr 2
        rw [HH.out.2.1.is, ← h1, ← HS.out.2.1]
        simp)
      have HLL := Lib.hid (show L1 = L by have := HS.out.1; simpa using this.symm)
      have hcode : ((unf r).2.2 : Int) ≠ 0 := by have := HH.out.2.1.rest; omega
      have hcb : (((unf r).2.2 : Int) != 0) = true := by simpa using hcode
      have hcd : (((unf r).2.2 : Int) == 0) = false := by simpa using hcode
      have HRL := Lib.hid (And.intro (show N - at_ ≤ 1000000 by omega) (And.intro (show N - at_ ≤ bc - at_ by omega) (show bc - at_ ≤ maxLen by unfold maxLen; omega)))
      clear hdr hlen hcode
      by_cases hc : bc = at_
      · have hz : r = [] := by have := HR.out.2; exact List.eq_nil_of_length_eq_zero (by omega)
        have HZ := Lib.hid (And.intro (show Bts wr bo r by rw [hz]; exact Bts.nil _ _) (And.intro (show N - at_ ≤ 0 by omega) (show 0 ≤ maxLen by unfold maxLen; omega)))
        clear hz
        go_wp2_with (first
          | (go_at_call 63; (with_reducible refine (unframe_all bo (N - at_) 0 r _ HR.out.2 HRL.out.1 HZ.out.1 HZ.out.2.1 HZ.out.2.2).mono ?_); rintro e2 w2 ⟨xo, xc, yo, yc, rfl, hw2, _, _⟩; have H2 := Lib.hid hw2; clear hw2)
          | (go_at_call 64; (with_reducible refine (cut_any p d F _ _ (HH.out.1.keep (Chg.of_below (HS.out.2.2.2.2.2.1.trans (H2.out.mono HS.out.2.2.2.2.2.1.size)) (fun _ => False)) (fun _ _ h => h))).mono ?_); rintro e3 w3 ⟨rfl, F3, g1, g2, g3⟩; rw [HC.out] at g1; have H3 := Lib.hid (And.intro g1 (And.intro g2 g3)); clear g1 g2 g3)
          | (go_at_call 65; (with_reducible refine (sync_any p _ F3 _ H3.out.1).mono ?_); rintro e4 w4 ⟨rfl, hd⟩; have H4 := Lib.hid hd; clear hd))
        go_ret3
        exact open_end HH.out.1 (HS.out.2.2.2.2.2.1.trans (H2.out.mono HS.out.2.2.2.2.2.1.size)) (HS.out.2.2.2.1.stays H2.out) (by rw [HS.out.2.2.1, HLL.out]) HS.out.2.2.2.2.1 H3.out.1 H3.out.2.1 H3.out.2.2 H4.out HS.out.2.2.2.2.2.2.2.2
      · have HB2 := Lib.hid (show Bts wr (bo.map (fun x => x.add at_)) r by have h1 := HS.out.2.2.2.2.2.2.1.drop' at_; rwa [HR.out.1] at h1)
        go_wp2_with (first
          | (go_at_call 63; (with_reducible refine (unframe_all (bo.map (fun x => x.add at_)) (N - at_) (bc - at_) r _ HR.out.2 HRL.out.1 HB2.out HRL.out.2.1 HRL.out.2.2).mono ?_); rintro e2 w2 ⟨xo, xc, yo, yc, rfl, hw2, _, _⟩; have H2 := Lib.hid hw2; clear hw2)
          | (go_at_call 64; (with_reducible refine (cut_any p d F _ _ (HH.out.1.keep (Chg.of_below (HS.out.2.2.2.2.2.1.trans (H2.out.mono HS.out.2.2.2.2.2.1.size)) (fun _ => False)) (fun _ _ h => h))).mono ?_); rintro e3 w3 ⟨rfl, F3, g1, g2, g3⟩; rw [HC.out] at g1; have H3 := Lib.hid (And.intro g1 (And.intro g2 g3)); clear g1 g2 g3)
          | (go_at_call 65; (with_reducible refine (sync_any p _ F3 _ H3.out.1).mono ?_); rintro e4 w4 ⟨rfl, hd⟩; have H4 := Lib.hid hd; clear hd))
        go_ret3
        exact open_end HH.out.1 (HS.out.2.2.2.2.2.1.trans (H2.out.mono HS.out.2.2.2.2.2.1.size)) (HS.out.2.2.2.1.stays H2.out) (by rw [HS.out.2.2.1, HLL.out]) HS.out.2.2.2.2.1 H3.out.1 H3.out.2.1 H3.out.2.2 H4.out HS.out.2.2.2.2.2.2.2.2
    | cons x L2 =>
      have hx4 : x.length ≤ 4096 := HH.out.2.1.short x (by rw [HS.out.1]; simp)
      have hfl := frame_len x
      have hc : ¬ bc = at_ := by
        intro e
        have h1 := HLN.out
        rw [frames_cons, List.length_append, hfl] at h1
        omega
      have hdx : d.b.drop at_ = frame x ++ (frames L2 ++ r) := by rw [hdr, frames_cons, List.append_assoc]
      have HB2 := Lib.hid (show Bts wr (bo.map (fun x => x.add at_)) (frame x ++ (frames L2 ++ r)) by have h1 := HS.out.2.2.2.2.2.2.1.drop' at_; rwa [hdx] at h1)
      obtain ⟨R, hR⟩ : ∃ R, (frames L2 ++ r).length = R := ⟨_, rfl⟩
      have hlx : N = at_ + (x.length + 8 + R) := by
        have h1 := HLN.out
        rw [frames_cons, List.length_append, hfl] at h1
        rw [List.length_append] at hR
        omega
      have HX := Lib.hid (And.intro (show (frame x ++ (frames L2 ++ r)).length = N - at_ by rw [List.length_append, hfl, hR]; omega) (And.intro hR (show N - at_ ≤ bc - at_ by omega)))
      have HXM := Lib.hid (show bc - at_ ≤ maxLen by unfold maxLen; omega)
      have hNa : N - at_ ≤ 1000000 := by omega
      have hRN : R ≤ N := by omega
      have hRi : (R : Int) ≤ (N : Int) := by omega
      have HNR := Lib.hid (show ((N : Int) - (R : Int)) = ((at_ + (x.length + 8) : Nat) : Int) by omega)
      clear hdr hlen hfl hdx hR hlx
      go_wp2_with fail
      (with_reducible refine (unframe_any (bo.map (fun x => x.add at_)) (N - at_) (bc - at_) x (frames L2 ++ r) _ HX.out.1 hx4 hNa HB2.out HX.out.2.2 HXM.out).mono ?_)
      rintro e2 w2 ⟨xo, xc, yo, yc, rfl, hw2, o1, _, hx1, _⟩
      rw [HX.out.2.1]
      have hr2 := Row.alloc w2 #[.slice xo x.length xc] 25 (0, 0)
      have HO2 := Lib.hid (And.intro ((HS.out.2.2.2.1.stays hw2).own.keep ((Chg.refl (fun _ => False) w2).alloc (.cells #[.slice xo x.length xc] 25)) (fun _ _ h => h)) hr2)
      have H2 := Lib.hid (And.intro hw2 (And.intro o1 hx1))
      clear hw2 o1 hx1 hr2
      go_wp2_with (at_builtin; refine wpList_append' rfl (.tmp 25) (.tmp 27) el_bs rfl rfl rfl HO2.out.1 (m := 1) (news := [(BEnt.mk x xo xc).cell]) rfl HO2.out.2 (one_ent [BEnt.mk x xo xc]) (by unfold maxLen; omega) (by omega) ?_; intro zo zc w3 hx hch _ hx2; have H3 := Lib.hid (And.intro hx (And.intro hch hx2)); clear hx hch hx2)
      go_roundg (gk - 1)
      case measure => simp only [List.length_cons] at hg; omega
      case rel =>
        obtain ⟨hL, hat, hes, hB, hoo, hbw, hbt, hap, hcp⟩ := HS.out
        obtain ⟨hx3, hch3, hx23⟩ := H3.out
        have hF := HH.out.1.lt
        have hBF : ∀ k ∈ F, k < w2.heap.size := fun k hk => Nat.lt_of_lt_of_le (hF k hk) (Nat.le_trans hbw.size H2.out.1.size)
        have hB2 := (hB.stays H2.out.1)
        have hS3 := Bodies.snoc (e := ⟨x, xo, xc⟩) hB2 hBF H2.out.2.1.bts (ent_new hF hbw hB H2.out.1 H2.out.2.2) hx3 hch3 hx23
        have hb2 : Below w.heap.size w (w2.alloc (.cells #[.slice xo x.length xc] 25)) := (hbw.trans (H2.out.1.mono hbw.size)).alloc (Nat.le_trans hbw.size H2.out.1.size) _
        refine ⟨L1 ++ [x], L2, at_ + (x.length + 8), zo, n + 1, zc, es ++ [⟨x, xo, xc⟩], by rw [hL]; simp, by simp only [List.length_cons] at hg; omega, rfl, ?_, by rw [frames_app, frames_one, List.length_append, frame_len, hat], by rw [List.map_append, hes]; rfl, hS3, fun a ha => ?_, hb2.trans (hch3.below hb2.size ?_), bts_keep ((hbt.below H2.out.1).below ((Below.refl _ _).alloc (Nat.le_refl _) _)) hch3 (fun hz a ha ⟨b, hb, e⟩ => hap hz a ha b hb e), fun hz a ha b hb e => ?_, fun y hy => ?_⟩
        · have := HNR.out; rw [← this]
        · rcases hx23 a ha with h | h
          · exact hoo a h
          · exact Nat.le_trans hb2.size h
        · rintro i ⟨a, ha, e⟩
          exact e ▸ hoo a ha
        · rcases hx23 b hb with h | h
          · exact hap hz a ha b h e
          · have := bts_lt (hbt.below H2.out.1) hz a ha
            rw [size_alloc] at h
            omega
        · rcases List.mem_append.1 hy with hy | hy
          · exact hcp y hy
          · rw [List.mem_singleton] at hy
            subst hy
            exact ⟨H2.out.2.1.le, H2.out.2.1.max⟩
theorem open_any (p : Nat) (d : Dsk) (F : List Nat) (L : List (List UInt8)) (r : List UInt8) (w : World) (h : DiskAt 102 w p d F) (hr : Recs d.b L r) (hm : d.b.length ≤ 1000000) :
    Calls Tryz.prog 42 #[.pointer (some ⟨p, 0, none⟩)] w (Opened w p F d.room L) :=
  (open_any2 p d F L r w h hr hm).mono fun _ _ ⟨j, oo, n, cap, es, F', h1, h2, h3, h4, h5, h6, h7, h8, _⟩ => ⟨j, oo, n, cap, es, F', h1, h2, h3, h4, h5, h6, h7, h8⟩
end Go.Proofs.YtackmgmaippajaaGreat.Jr
