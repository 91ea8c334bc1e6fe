/-
  JOINED BY fam.py out of: Disk, DiskR.
-/
import Derived.Test.YtackmgmaippajaaProg
import Derived.Test.YtackmgmaippajaaFB
import Derived.Deep.LoopGhost
import Derived.Deep.QuietTactic
import Derived.BigQuiet
import Derived.WalkLawsBesides
import Derived.WalkSpells
import Derived.Deep.DeepCutAuto
import Derived.Lib.SliceRun
import Derived.Deep.RegionLaw
-- part Disk
namespace Go.Proofs.Ytackmgmaippajaa.Jr
open Go Go.RowKit

/-! ### the thing -/
structure Dsk where
  room : Nat
  sure : Nat
  b : List UInt8
  deriving DecidableEq
structure Dsk.Ok (d : Dsk) : Prop where
  len : d.b.length ≤ d.room
  sure : d.sure ≤ d.b.length
  room : d.room ≤ 16777216
def Dsk.cells (d : Dsk) (ao : Option Addr) (cap : Nat) : Array Value := #[.int .i64 (d.room : Int), .int .i64 (d.sure : Int), .slice ao d.b.length cap]
/-- The disk d lies at block p; F: the blocks that are its own. -/
def DiskAt (T : TypeId) (w : World) (p : Nat) (d : Dsk) (F : List Nat) : Prop :=
  ∃ ao cap, w.heap[p]? = some (.cells (d.cells ao cap) T (0, 0)) ∧ Own w 1 ao d.b.length cap (d.b.map cb) ∧ (∀ a, ao = some a → a.block ≠ p) ∧ F = p :: (ao.map (·.block)).toList ∧ d.Ok
theorem DiskAt.lt {T : TypeId} {w : World} {p : Nat} {d : Dsk} {F : List Nat} (h : DiskAt T w p d F) : ∀ k ∈ F, k < w.heap.size := by
  obtain ⟨ao, cap, h1, h2, h3, rfl, h5⟩ := h
  intro k hk
  rcases List.mem_cons.1 hk with rfl | hk
  · exact heap_lt h1
  · cases ao with
    | none => simp at hk
    | some a => simp at hk; subst hk; exact (h2.at_ a rfl).2.1
theorem DiskAt.keep {T : TypeId} {w w' : World} {p : Nat} {d : Dsk} {F : List Nat} (h : DiskAt T w p d F) {S : Nat → Prop} (hc : Chg S w w') (hS : ∀ k ∈ F, ¬ S k) : DiskAt T w' p d F := by
  obtain ⟨ao, cap, h1, h2, h3, rfl, h5⟩ := h
  refine ⟨ao, cap, hc.heap h1 (hS _ (by simp)), h2.keep hc ?_, h3, rfl, h5⟩
  rintro a rfl; exact hS _ (by simp)
theorem DiskAt.drewN {T : TypeId} {w : World} {p : Nat} {d : Dsk} {F : List Nat} (h : DiskAt T w p d F) (n : Nat) : DiskAt T (w.drewN n) p d F := h.keep (S := fun _ => False) ((Chg.refl _ _).drewN n) (fun _ _ h => h)
theorem DiskAt.len {T : TypeId} {w : World} {p : Nat} {d : Dsk} {F : List Nat} (h : DiskAt T w p d F) : d.b.length ≤ 16777216 := by
  obtain ⟨_, _, _, _, _, _, h⟩ := h
  exact Nat.le_trans h.len h.room

theorem new_any (room : Int) (w : World) (hr : 0 ≤ room ∧ room ≤ 16777216) :
    Calls Try.prog 7 #[.int .i64 room] w fun e w' => e = .returned (.tuple #[.pointer (some ⟨w.heap.size, 0, none⟩), .int .i64 0]) ∧ Below w.heap.size w w' ∧ DiskAt 51 w' w.heap.size ⟨room.toNat, 0, []⟩ [w.heap.size] := by
  obtain ⟨h0, h1⟩ := hr
  go_enter Try.func7, Try.ntmps7
  go_wp2
  go_ret2
  refine ⟨rfl, (Below.refl _ _).alloc (Nat.le_refl _) _, none, 0, ?_, Own.nil' _ _, by simp, rfl, by simp, by simp, by simp; omega⟩
  have := heap_alloc_new w (.cells #[.int .i64 room, .int .i64 0, .slice none 0 0] 51)
  rw [this]
  simp [Dsk.cells]
  omega
theorem new_bad (room : Int) (w : World) (hr : room < 0 ∨ 16777216 < room) :
    Calls Try.prog 7 #[.int .i64 room] w fun e w' => e = .returned (.tuple #[.pointer none, .int .i64 2]) ∧ w = w' := by
  by_cases h : room < 0
  · go_enter Try.func7, Try.ntmps7
    go_wp2
    go_ret2
    exact ⟨rfl, rfl⟩
  · have h1 : 16777216 < room := by omega
    go_enter Try.func7, Try.ntmps7
    go_wp2
    go_ret2
    exact ⟨rfl, rfl⟩
theorem dcell {T : TypeId} {w : World} {p : Nat} {d : Dsk} {ao : Option Addr} {cap : Nat} (h : w.heap[p]? = some (.cells (d.cells ao cap) T (0, 0))) :
    w.cell? ⟨p, 0, none⟩ = some (.int .i64 (d.room : Int)) ∧ w.cell? ⟨p, 1, none⟩ = some (.int .i64 (d.sure : Int)) ∧ w.cell? ⟨p, 2, none⟩ = some (.slice ao d.b.length cap) ∧ w.frozen? ⟨p, 1, none⟩ = false ∧ w.frozen? ⟨p, 2, none⟩ = false :=
  ⟨heap_cell h 0, heap_cell h 1, heap_cell h 2, heap_frozen h 1, heap_frozen h 2⟩
/-- The disk as it is behind a call; nothing else has turned. -/
def DiskNow (T : TypeId) (w : World) (p : Nat) (F : List Nat) (d' : Dsk) (w' : World) : Prop := ∃ F', DiskAt T w' p d' F' ∧ Chg (· ∈ F) w w' ∧ Grew w F F'
theorem disk_now {T : TypeId} {w w2 : World} {p : Nat} {d d' : Dsk} {ao xo : Option Addr} {cap xc : Nat} (h1 : w.heap[p]? = some (.cells (d.cells ao cap) T (0, 0))) (h3 : ∀ a, ao = some a → a.block ≠ p)
    (hp : w2.heap[p]? = some (.cells (d'.cells xo xc) T (0, 0))) (ho : Own w2 1 xo d'.b.length xc (d'.b.map cb)) (hx : ∀ a, xo = some a → ao = some a ∨ w.heap.size ≤ a.block) (ok : d'.Ok)
    (hc : Chg (fun k => k = p ∨ ∃ a, ao = some a ∧ a.block = k) w w2) : DiskNow T w p (p :: (ao.map (·.block)).toList) d' w2 := by
  have hpl : p < w.heap.size := heap_lt h1
  refine ⟨_, ⟨xo, xc, hp, ho, ?_, rfl, ok⟩, hc.to ?_, ?_⟩
  · intro a ha
    rcases hx a ha with e | e
    · exact h3 a e
    · omega
  · rintro k (rfl | ⟨a, rfl, rfl⟩) <;> simp
  · intro k hk
    rcases List.mem_cons.1 hk with rfl | hk
    · exact .inl (by simp)
    · cases xo with
      | none => simp at hk
      | some a =>
        simp at hk; subst hk
        rcases hx a rfl with e | e
        · left; rw [e]; simp
        · exact .inr e
/-- What a call on a disk answers: a number, and the disk as it is then; nothing else turns. -/
def DiskPost (T : TypeId) (w : World) (p : Nat) (F : List Nat) (r : Int) (d' : Dsk) (e : Ending) (w' : World) : Prop :=
  e = .returned (.int .i64 r) ∧ ∃ F', DiskAt T w' p d' F' ∧ Chg (· ∈ F) w w' ∧ Grew w F F'
def Dsk.append (d : Dsk) (ys : List UInt8) : Int × Dsk := if d.room - d.b.length < ys.length then (8, d) else (0, { d with b := d.b ++ ys })
theorem append_any (p : Nat) (d : Dsk) (F : List Nat) (bo : Option Addr) (n c : Nat) (ys : List UInt8) (w : World) (h : DiskAt 51 w p d F) (hl : ys.length = n) (hb : Bts w bo ys) :
    Calls Try.prog 47 #[.pointer (some ⟨p, 0, none⟩), .slice bo n c] w (DiskPost 51 w p F (d.append ys).1 (d.append ys).2) := by
  have HA := Lib.hid h
  obtain ⟨ao, cap, h1, h2, h3, rfl, h5⟩ := h
  obtain ⟨c0, c1, c2, f1, f2⟩ := dcell h1
  have hr := h5.room
  have hlr := h5.len
  have HB := Lib.hid hb
  have HL := Lib.hid hl
  have H := Lib.hid (And.intro h1 (And.intro h2 (And.intro h3 h5)))
  clear h1 h2 h3 h5 hb hl
  by_cases hn : d.room - d.b.length < n
  · go_enter Try.func47, Try.ntmps47
    go_wp2
    go_quiet (fail)
    go_wp2
    go_ret
    have e : d.append ys = (8, d) := by rw [Dsk.append, if_pos (by rw [HL.out]; exact hn)]
    rw [e]
    exact ⟨rfl, _, HA.out.drewN _, (Chg.refl _ _).drewN _, Grew.refl _ _⟩
  · have hn' : n ≤ d.room - d.b.length := by omega
    go_enter Try.func47, Try.ntmps47
    go_wp2
    go_quiet (fail)
    go_wp2_with (at_builtin; refine wpList_append' rfl (.tmp 26) (.tmp 27) el_u8 rfl rfl rfl (H.out.2.1.drewN _) (by rw [List.length_map, HL.out, Nat.mul_one]) (HB.out.drewN _) (one_cb ys) (by unfold maxLen; omega) (by omega) ?_; intro xo xc w2 hx hch _ hx2; have hp : w2.heap[p]? = some (.cells (d.cells ao cap) 51 (0, 0)) := hch.heap H.out.1 (by rintro ⟨a, e1, e2⟩; exact H.out.2.2.1 a e1 e2); obtain ⟨_, _, g2, _, g3⟩ := dcell hp; have HP := Lib.hid hp; have HO := Lib.hid hx; have HC := Lib.hid hch; have HX2 := Lib.hid hx2; clear hx hch hx2 hp)
    go_ret
    have e : d.append ys = (0, { d with b := d.b ++ ys }) := by rw [Dsk.append, if_neg (by rw [HL.out]; omega)]
    rw [e]
    have hlen : (d.b ++ ys).length = d.b.length + n := by rw [List.length_append, HL.out]
    have hpl : p < w.heap.size := heap_lt H.out.1
    have hne : ∀ a, xo = some a → a.block ≠ p := by
      intro a ha
      rcases HX2.out a ha with e | e
      · exact H.out.2.2.1 a e
      · have : w.heap.size ≤ a.block := e
        omega
    refine ⟨rfl, _, ⟨xo, xc, ?_, ?_, hne, rfl, ?_⟩, ?_, ?_⟩
    · rw [heap_set HP.out 2 _]; simp [Dsk.cells, hlen]
    · show Own _ 1 xo (d.b ++ ys).length xc ((d.b ++ ys).map cb)
      rw [hlen, List.map_append]
      exact HO.out.keep (Chg.one _ _ _ _) hne
    · exact ⟨by show (d.b ++ ys).length ≤ d.room; rw [hlen]; omega, by show d.sure ≤ (d.b ++ ys).length; rw [hlen]; have := H.out.2.2.2.sure; omega, H.out.2.2.2.room⟩
    · refine (HC.out.undrewN.to ?_).set (by simp) _ _
      rintro k ⟨a, rfl, rfl⟩; simp
    · intro k hk
      rcases List.mem_cons.1 hk with rfl | hk
      · exact .inl (by simp)
      · cases xo with
        | none => simp at hk
        | some a =>
          simp at hk; subst hk
          rcases HX2.out a rfl with e | e
          · left; rw [e]; simp
          · exact .inr e

theorem sync_any (p : Nat) (d : Dsk) (F : List Nat) (w : World) (h : DiskAt 51 w p d F) :
    Calls Try.prog 27 #[.pointer (some ⟨p, 0, none⟩)] w fun e w' => e = .returned (.tuple #[]) ∧ DiskNow 51 w p F { d with sure := d.b.length } w' := by
  obtain ⟨ao, cap, h1, h2, h3, rfl, h5⟩ := h
  obtain ⟨c0, c1, c2, f1, f2⟩ := dcell h1
  have H := Lib.hid (And.intro h1 (And.intro h2 (And.intro h3 h5)))
  clear h1 h2 h3 h5
  go_enter Try.func27, Try.ntmps27
  go_wp2
  go_end0
  refine ⟨rfl, disk_now H.out.1 H.out.2.2.1 (xo := ao) (xc := cap) ?_ (H.out.2.1.keep (Chg.one _ _ _ _) H.out.2.2.1) (fun a h => .inl h) ⟨H.out.2.2.2.len, Nat.le_refl _, H.out.2.2.2.room⟩ (Chg.set (Chg.refl _ _) (.inl rfl) _ _)⟩
  rw [heap_set H.out.1]; rfl
theorem bytes_any (p : Nat) (d : Dsk) (F : List Nat) (w : World) (h : DiskAt 51 w p d F) :
    Calls Try.prog 24 #[.pointer (some ⟨p, 0, none⟩)] w fun e w' => ∃ bo cap, e = .returned (.slice bo d.b.length cap) ∧ Below w.heap.size w w' ∧ Own w' 1 bo d.b.length cap (d.b.map cb) ∧ ∀ a, bo = some a → w.heap.size ≤ a.block := by
  obtain ⟨ao, cap, h1, h2, h3, rfl, h5⟩ := h
  obtain ⟨c0, c1, c2, f1, f2⟩ := dcell h1
  have H := Lib.hid h2
  have hr := h5.room
  have hlr := h5.len
  clear h1 h2 h3 h5
  go_enter Try.func24, Try.ntmps24
  go_wp2_with (go_at_call 57; (with_reducible refine (clone_any _ _ _ d.b _ rfl (by omega) H.out.bts).mono ?_); rintro e w1 ⟨bo, xc, rfl, hb, ho, hx⟩; have HB := Lib.hid hb; have HO := Lib.hid ho; have HX := Lib.hid hx; clear hb ho hx)
  go_ret
  exact ⟨bo, xc, rfl, HB.out, HO.out, HX.out⟩
def Dsk.cut (d : Dsk) (n : Int) : Int × Dsk := if n < 0 ∨ (d.b.length : Int) < n then (2, d) else (0, ⟨d.room, min d.sure n.toNat, d.b.take n.toNat⟩)
theorem cut_any (p : Nat) (d : Dsk) (F : List Nat) (n : Int) (w : World) (h : DiskAt 51 w p d F) :
    Calls Try.prog 26 #[.pointer (some ⟨p, 0, none⟩), .int .i64 n] w fun e w' => e = .returned (.int .i64 (d.cut n).1) ∧ DiskNow 51 w p F (d.cut n).2 w' := by
  have HA := Lib.hid h
  obtain ⟨ao, cap, h1, h2, h3, rfl, h5⟩ := h
  obtain ⟨c0, c1, c2, f1, f2⟩ := dcell h1
  have H := Lib.hid (And.intro h1 (And.intro h2 (And.intro h3 h5)))
  have hcap := h2.le
  clear h1 h2 h3 h5
  by_cases hn : n < 0
  · go_enter Try.func26, Try.ntmps26
    go_wp2
    go_ret
    have e : d.cut n = (2, d) := by rw [Dsk.cut, if_pos (.inl hn)]
    rw [e]
    exact ⟨rfl, _, HA.out, Chg.refl _ _, Grew.refl _ _⟩
  by_cases hn' : (d.b.length : Int) < n
  · go_enter Try.func26, Try.ntmps26
    go_wp2
    go_ret
    have e : d.cut n = (2, d) := by rw [Dsk.cut, if_pos (.inr hn')]
    rw [e]
    exact ⟨rfl, _, HA.out, Chg.refl _ _, Grew.refl _ _⟩
  · obtain ⟨m, rfl⟩ : ∃ m : Nat, n = (m : Int) := ⟨n.toNat, by omega⟩
    have hm : m ≤ d.b.length := by omega
    go_enter Try.func26, Try.ntmps26
    go_wp2
    go_region
    go_wp2
    all_goals
      go_ret
      have e : d.cut (m : Int) = (0, ⟨d.room, min d.sure m, d.b.take m⟩) := by rw [Dsk.cut, if_neg (by omega)]; simp
      have hl : (d.b.take m).length = m := by rw [List.length_take]; omega
      rw [e]
      refine ⟨rfl, disk_now H.out.1 H.out.2.2.1 (xo := ao) (xc := m) ?_ ?_ (fun a h => .inl h) ⟨by show (d.b.take m).length ≤ d.room; rw [hl]; have := H.out.2.2.2.len; omega, by show min d.sure m ≤ (d.b.take m).length; rw [hl]; omega, H.out.2.2.2.room⟩ (Chg.drew (Chg.set (Chg.set (Chg.refl _ _) (.inl rfl) _ _) (.inl rfl) _ _))⟩
      · refine (heap_set (heap_set H.out.1 _ _) _ _).trans ?_
        simp only [Dsk.cells, hl]
        simp
        omega
      · show Own _ 1 ao (d.b.take m).length m ((d.b.take m).map cb)
        rw [hl, List.map_take]
        have h1 := H.out.2.1.cut (m := m) (Nat.le_refl _) hm (by omega)
        rw [Nat.mul_one] at h1
        exact ((h1.keep (Chg.one _ p 2 _) H.out.2.2.1).keep (Chg.one _ p 1 _) H.out.2.2.1).drew

/-- How many bytes a crash leaves. -/
def Dsk.upto (d : Dsk) (keep : Int) : Nat := d.sure + (max 0 (min keep ((d.b.length : Int) - d.sure))).toNat
def Dsk.crash (d : Dsk) (keep bit : Int) : Dsk :=
  ⟨d.room, d.upto keep, if d.sure < d.upto keep ∧ 0 ≤ bit ∧ bit < 8 then (d.b.take (d.upto keep)).modify (d.upto keep - 1) (· ^^^ UInt8.ofNat (2 ^ bit.toNat)) else d.b.take (d.upto keep)⟩
theorem Dsk.upto_le (d : Dsk) (keep : Int) (h : d.sure ≤ d.b.length) : d.sure ≤ d.upto keep ∧ d.upto keep ≤ d.b.length := by unfold Dsk.upto; omega
theorem modify_cells {l : List UInt8} {n : Nat} (v : UInt8) (hn : n < l.length) : (l.modify n (· ^^^ v)).map cb = (l.map cb).set n (cb (l[n] ^^^ v)) := by
  apply List.ext_getElem?
  intro j
  rw [List.getElem?_map, List.getElem?_modify, List.getElem?_set]
  by_cases e : n = j
  · subst e; simp [hn]
  · simp [e]
theorem shl_bit (n : Nat) (h : n < 8) : (2 : Int) ^ n % 256 = ((UInt8.ofNat (2 ^ n)).toNat : Int) := by
  have : ∀ r : Fin 8, (2 : Int) ^ r.val % 256 = ((UInt8.ofNat (2 ^ r.val)).toNat : Int) := by decide
  exact this ⟨n, h⟩
end Go.Proofs.Ytackmgmaippajaa.Jr
-- part DiskR
namespace Go.Proofs.Ytackmgmaippajaa.Jr
open Go Go.RowKit

end Go.Proofs.Ytackmgmaippajaa.Jr
