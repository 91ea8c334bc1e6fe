/-
  JOINED BY fam.py out of: Disk, DiskR.
-/
import Derived.Test.YtackmgmaippajaaGreatProg
import Derived.Test.YtackmgmaippajaaGreatFB
import Derived.Deep.LoopGhost
import Derived.Deep.QuietTactic
import Derived.BigQuiet
import Derived.WalkLawsBesides
import Derived.WalkSpells
import Derived.Deep.DeepCutAuto
import Derived.Lib.SliceRun
import Derived.Deep.RegionLaw
-- part Disk
namespace Go.Proofs.YtackmgmaippajaaGreat.Jr
set_option maxRecDepth 100000
open Go Go.RowKit

/-! ### the thing -/
structure Dsk where
  room : Nat
  sure : Nat
  b : List UInt8
  deriving DecidableEq
structure Dsk.Ok (d : Dsk) : Prop where
  len : d.b.length ≤ d.room
  sure : d.sure ≤ d.b.length
  room : d.room ≤ 16777216
def Dsk.cells (d : Dsk) (ao : Option Addr) (cap : Nat) : Array Value := #[.int .i64 (d.room : Int), .int .i64 (d.sure : Int), .slice ao d.b.length cap]
/-- The disk d lies at block p; F: the blocks that are its own. -/
def DiskAt (T : TypeId) (w : World) (p : Nat) (d : Dsk) (F : List Nat) : Prop :=
  ∃ ao cap, w.heap[p]? = some (.cells (d.cells ao cap) T (0, 0)) ∧ Own w 1 ao d.b.length cap (d.b.map cb) ∧ (∀ a, ao = some a → a.block ≠ p) ∧ F = p :: (ao.map (·.block)).toList ∧ d.Ok
theorem DiskAt.lt {T : TypeId} {w : World} {p : Nat} {d : Dsk} {F : List Nat} (h : DiskAt T w p d F) : ∀ k ∈ F, k < w.heap.size := by
  obtain ⟨ao, cap, h1, h2, h3, rfl, h5⟩ := h
  intro k hk
  rcases List.mem_cons.1 hk with rfl | hk
  · exact heap_lt h1
  · cases ao with
    | none => simp at hk
    | some a => simp at hk; subst hk; exact (h2.at_ a rfl).2.1
theorem DiskAt.keep {T : TypeId} {w w' : World} {p : Nat} {d : Dsk} {F : List Nat} (h : DiskAt T w p d F) {S : Nat → Prop} (hc : Chg S w w') (hS : ∀ k ∈ F, ¬ S k) : DiskAt T w' p d F := by
  obtain ⟨ao, cap, h1, h2, h3, rfl, h5⟩ := h
  refine ⟨ao, cap, hc.heap h1 (hS _ (by simp)), h2.keep hc ?_, h3, rfl, h5⟩
  rintro a rfl; exact hS _ (by simp)
theorem DiskAt.drewN {T : TypeId} {w : World} {p : Nat} {d : Dsk} {F : List Nat} (h : DiskAt T w p d F) (n : Nat) : DiskAt T (w.drewN n) p d F := h.keep (S := fun _ => False) ((Chg.refl _ _).drewN n) (fun _ _ h => h)
theorem DiskAt.len {T : TypeId} {w : World} {p : Nat} {d : Dsk} {F : List Nat} (h : DiskAt T w p d F) : d.b.length ≤ 16777216 := by
  obtain ⟨_, _, _, _, _, _, h⟩ := h
  exact Nat.le_trans h.len h.room

theorem new_any (room : Int) (w : World) (hr : 0 ≤ room ∧ room ≤ 16777216) :
    Calls Tryz.prog 13 #[.int .i64 room] w fun e w' => e = .returned (.tuple #[.pointer (some ⟨w.heap.size, 0, none⟩), .int .i64 0]) ∧ Below w.heap.size w w' ∧ DiskAt 102 w' w.heap.size ⟨room.toNat, 0, []⟩ [w.heap.size] := by
  obtain ⟨h0, h1⟩ := hr
  go_enter Tryz.func13, Tryz.ntmps13
  go_wp2
  go_ret2
  refine ⟨rfl, (Below.refl _ _).alloc (Nat.le_refl _) _, none, 0, ?_, Own.nil' _ _, by simp, rfl, by simp, by simp, by simp; omega⟩
  have := heap_alloc_new w (.cells #[.int .i64 room, .int .i64 0, .slice none 0 0] 102)
  rw [this]
  simp [Dsk.cells]
  omega
theorem new_bad (room : Int) (w : World) (hr : room < 0 ∨ 16777216 < room) :
    Calls Tryz.prog 13 #[.int .i64 room] w fun e w' => e = .returned (.tuple #[.pointer none, .int .i64 2]) ∧ w = w' := by
  by_cases h : room < 0
  · go_enter Tryz.func13, Tryz.ntmps13
    go_wp2
    go_ret2
    exact ⟨rfl, rfl⟩
  · have h1 : 16777216 < room := by omega
    go_enter Tryz.func13, Tryz.ntmps13
    go_wp2
    go_ret2
    exact ⟨rfl, rfl⟩
theorem dcell {T : TypeId} {w : World} {p : Nat} {d : Dsk} {ao : Option Addr} {cap : Nat} (h : w.heap[p]? = some (.cells (d.cells ao cap) T (0, 0))) :
    w.cell? ⟨p, 0, none⟩ = some (.int .i64 (d.room : Int)) ∧ w.cell? ⟨p, 1, none⟩ = some (.int .i64 (d.sure : Int)) ∧ w.cell? ⟨p, 2, none⟩ = some (.slice ao d.b.length cap) ∧ w.frozen? ⟨p, 1, none⟩ = false ∧ w.frozen? ⟨p, 2, none⟩ = false :=
  ⟨heap_cell h 0, heap_cell h 1, heap_cell h 2, heap_frozen h 1, heap_frozen h 2⟩
/-- The disk as it is behind a call; nothing else has turned. -/
def DiskNow (T : TypeId) (w : World) (p : Nat) (F : List Nat) (d' : Dsk) (w' : World) : Prop := ∃ F', DiskAt T w' p d' F' ∧ Chg (· ∈ F) w w' ∧ Grew w F F'
theorem disk_now {T : TypeId} {w w2 : World} {p : Nat} {d d' : Dsk} {ao xo : Option Addr} {cap xc : Nat} (h1 : w.heap[p]? = some (.cells (d.cells ao cap) T (0, 0))) (h3 : ∀ a, ao = some a → a.block ≠ p)
    (hp : w2.heap[p]? = some (.cells (d'.cells xo xc) T (0, 0))) (ho : Own w2 1 xo d'.b.length xc (d'.b.map cb)) (hx : ∀ a, xo = some a → ao = some a ∨ w.heap.size ≤ a.block) (ok : d'.Ok)
    (hc : Chg (fun k => k = p ∨ ∃ a, ao = some a ∧ a.block = k) w w2) : DiskNow T w p (p :: (ao.map (·.block)).toList) d' w2 := by
  have hpl : p < w.heap.size := heap_lt h1
  refine ⟨_, ⟨xo, xc, hp, ho, ?_, rfl, ok⟩, hc.to ?_, ?_⟩
  · intro a ha
    rcases hx a ha with e | e
    · exact h3 a e
    · omega
  · rintro k (rfl | ⟨a, rfl, rfl⟩) <;> simp
  · intro k hk
    rcases List.mem_cons.1 hk with rfl | hk
    · exact .inl (by simp)
    · cases xo with
      | none => simp at hk
      | some a =>
        simp at hk; subst hk
        rcases hx a rfl with e | e
        · left; rw [e]; simp
        · exact .inr e
/-- What a call on a disk answers: a number, and the disk as it is then; nothing else turns. -/
def DiskPost (T : TypeId) (w : World) (p : Nat) (F : List Nat) (r : Int) (d' : Dsk) (e : Ending) (w' : World) : Prop :=
  e = .returned (.int .i64 r) ∧ ∃ F', DiskAt T w' p d' F' ∧ Chg (· ∈ F) w w' ∧ Grew w F F'
def Dsk.append (d : Dsk) (ys : List UInt8) : Int × Dsk := if d.room - d.b.length < ys.length then (8, d) else (0, { d with b := d.b ++ ys })
theorem append_any (p : Nat) (d : Dsk) (F : List Nat) (bo : Option Addr) (n c : Nat) (ys : List UInt8) (w : World) (h : DiskAt 102 w p d F) (hl : ys.length = n) (hb : Bts w bo ys) :
    Calls Tryz.prog 39 #[.pointer (some ⟨p, 0, none⟩), .slice bo n c] w (DiskPost 102 w p F (d.append ys).1 (d.append ys).2) := by
  have HA := Lib.hid h
  obtain ⟨ao, cap, h1, h2, h3, rfl, h5⟩ := h
  obtain ⟨c0, c1, c2, f1, f2⟩ := dcell h1
  have hr := h5.room
  have hlr := h5.len
  have HB := Lib.hid hb
  have HL := Lib.hid hl
  have H := Lib.hid (And.intro h1 (And.intro h2 (And.intro h3 h5)))
  clear h1 h2 h3 h5 hb hl
  by_cases hn : d.room - d.b.length < n
  · go_enter Tryz.func39, Tryz.ntmps39
    go_wp2
    go_quiet (fail)
    go_wp2
    go_ret
    have e : d.append ys = (8, d) := by rw [Dsk.append, if_pos (by rw [HL.out]; exact hn)]
    rw [e]
    exact ⟨rfl, _, HA.out.drewN _, (Chg.refl _ _).drewN _, Grew.refl _ _⟩
  · have hn' : n ≤ d.room - d.b.length := by omega
    go_enter Tryz.func39, Tryz.ntmps39
    go_wp2
    go_quiet (fail)
    go_wp2_with (at_builtin; refine wpList_append' rfl (.tmp 26) (.tmp 27) el_u8 rfl rfl rfl (H.out.2.1.drewN _) (by rw [List.length_map, HL.out, Nat.mul_one]) (HB.out.drewN _) (one_cb ys) (by unfold maxLen; omega) (by omega) ?_; intro xo xc w2 hx hch _ hx2; have hp : w2.heap[p]? = some (.cells (d.cells ao cap) 102 (0, 0)) := hch.heap H.out.1 (by rintro ⟨a, e1, e2⟩; exact H.out.2.2.1 a e1 e2); obtain ⟨_, _, g2, _, g3⟩ := dcell hp; have HP := Lib.hid hp; have HO := Lib.hid hx; have HC := Lib.hid hch; have HX2 := Lib.hid hx2; clear hx hch hx2 hp)
    go_ret
    have e : d.append ys = (0, { d with b := d.b ++ ys }) := by rw [Dsk.append, if_neg (by rw [HL.out]; omega)]
    rw [e]
    have hlen : (d.b ++ ys).length = d.b.length + n := by rw [List.length_append, HL.out]
    have hpl : p < w.heap.size := heap_lt H.out.1
    have hne : ∀ a, xo = some a → a.block ≠ p := by
      intro a ha
      rcases HX2.out a ha with e | e
      · exact H.out.2.2.1 a e
      · have : w.heap.size ≤ a.block := e
        omega
    refine ⟨rfl, _, ⟨xo, xc, ?_, ?_, hne, rfl, ?_⟩, ?_, ?_⟩
    · rw [heap_set HP.out 2 _]; simp [Dsk.cells, hlen]
    · show Own _ 1 xo (d.b ++ ys).length xc ((d.b ++ ys).map cb)
      rw [hlen, List.map_append]
      exact HO.out.keep (Chg.one _ _ _ _) hne
    · exact ⟨by show (d.b ++ ys).length ≤ d.room; rw [hlen]; omega, by show d.sure ≤ (d.b ++ ys).length; rw [hlen]; have := H.out.2.2.2.sure; omega, H.out.2.2.2.room⟩
    · refine (HC.out.undrewN.to ?_).set (by simp) _ _
      rintro k ⟨a, rfl, rfl⟩; simp
    · intro k hk
      rcases List.mem_cons.1 hk with rfl | hk
      · exact .inl (by simp)
      · cases xo with
        | none => simp at hk
        | some a =>
          simp at hk; subst hk
          rcases HX2.out a rfl with e | e
          · left; rw [e]; simp
          · exact .inr e

theorem sync_any (p : Nat) (d : Dsk) (F : List Nat) (w : World) (h : DiskAt 102 w p d F) :
    Calls Tryz.prog 65 #[.pointer (some ⟨p, 0, none⟩)] w fun e w' => e = .returned (.tuple #[]) ∧ DiskNow 102 w p F { d with sure := d.b.length } w' := by
  obtain ⟨ao, cap, h1, h2, h3, rfl, h5⟩ := h
  obtain ⟨c0, c1, c2, f1, f2⟩ := dcell h1
  have H := Lib.hid (And.intro h1 (And.intro h2 (And.intro h3 h5)))
  clear h1 h2 h3 h5
  go_enter Tryz.func65, Tryz.ntmps65
  go_wp2
  go_end0
  refine ⟨rfl, disk_now H.out.1 H.out.2.2.1 (xo := ao) (xc := cap) ?_ (H.out.2.1.keep (Chg.one _ _ _ _) H.out.2.2.1) (fun a h => .inl h) ⟨H.out.2.2.2.len, Nat.le_refl _, H.out.2.2.2.room⟩ (Chg.set (Chg.refl _ _) (.inl rfl) _ _)⟩
  rw [heap_set H.out.1]; rfl
theorem sure_any (p : Nat) (d : Dsk) (F : List Nat) (w : World) (h : DiskAt 102 w p d F) :
    Calls Tryz.prog 20 #[.pointer (some ⟨p, 0, none⟩)] w fun e w' => e = .returned (.int .i64 (d.sure : Int)) ∧ w = w' := by
  obtain ⟨ao, cap, h1, h2, h3, rfl, h5⟩ := h
  obtain ⟨c0, c1, c2, f1, f2⟩ := dcell h1
  clear h1 h2 h3 h5
  go_enter Tryz.func20, Tryz.ntmps20
  go_wp2
  go_ret
  exact ⟨rfl, rfl⟩
theorem bytes_any (p : Nat) (d : Dsk) (F : List Nat) (w : World) (h : DiskAt 102 w p d F) :
    Calls Tryz.prog 17 #[.pointer (some ⟨p, 0, none⟩)] w fun e w' => ∃ bo cap, e = .returned (.slice bo d.b.length cap) ∧ Below w.heap.size w w' ∧ Own w' 1 bo d.b.length cap (d.b.map cb) ∧ ∀ a, bo = some a → w.heap.size ≤ a.block := by
  obtain ⟨ao, cap, h1, h2, h3, rfl, h5⟩ := h
  obtain ⟨c0, c1, c2, f1, f2⟩ := dcell h1
  have H := Lib.hid h2
  have hr := h5.room
  have hlr := h5.len
  clear h1 h2 h3 h5
  go_enter Tryz.func17, Tryz.ntmps17
  go_wp2_with (go_at_call 46; (with_reducible refine (clone_any _ _ _ d.b _ rfl (by omega) H.out.bts).mono ?_); rintro e w1 ⟨bo, xc, rfl, hb, ho, hx⟩; have HB := Lib.hid hb; have HO := Lib.hid ho; have HX := Lib.hid hx; clear hb ho hx)
  go_ret
  exact ⟨bo, xc, rfl, HB.out, HO.out, HX.out⟩
def Dsk.cut (d : Dsk) (n : Int) : Int × Dsk := if n < 0 ∨ (d.b.length : Int) < n then (2, d) else (0, ⟨d.room, min d.sure n.toNat, d.b.take n.toNat⟩)
theorem cut_any (p : Nat) (d : Dsk) (F : List Nat) (n : Int) (w : World) (h : DiskAt 102 w p d F) :
    Calls Tryz.prog 64 #[.pointer (some ⟨p, 0, none⟩), .int .i64 n] w fun e w' => e = .returned (.int .i64 (d.cut n).1) ∧ DiskNow 102 w p F (d.cut n).2 w' := by
  have HA := Lib.hid h
  obtain ⟨ao, cap, h1, h2, h3, rfl, h5⟩ := h
  obtain ⟨c0, c1, c2, f1, f2⟩ := dcell h1
  have H := Lib.hid (And.intro h1 (And.intro h2 (And.intro h3 h5)))
  have hcap := h2.le
  clear h1 h2 h3 h5
  by_cases hn : n < 0
  · go_enter Tryz.func64, Tryz.ntmps64
    go_wp2
    go_ret
    have e : d.cut n = (2, d) := by rw [Dsk.cut, if_pos (.inl hn)]
    rw [e]
    exact ⟨rfl, _, HA.out, Chg.refl _ _, Grew.refl _ _⟩
  by_cases hn' : (d.b.length : Int) < n
  · go_enter Tryz.func64, Tryz.ntmps64
    go_wp2
    go_ret
    have e : d.cut n = (2, d) := by rw [Dsk.cut, if_pos (.inr hn')]
    rw [e]
    exact ⟨rfl, _, HA.out, Chg.refl _ _, Grew.refl _ _⟩
  · obtain ⟨m, rfl⟩ : ∃ m : Nat, n = (m : Int) := ⟨n.toNat, by omega⟩
    have hm : m ≤ d.b.length := by omega
    go_enter Tryz.func64, Tryz.ntmps64
    go_wp2
    go_region
    go_wp2
    all_goals
      go_ret
      have e : d.cut (m : Int) = (0, ⟨d.room, min d.sure m, d.b.take m⟩) := by rw [Dsk.cut, if_neg (by omega)]; simp
      have hl : (d.b.take m).length = m := by rw [List.length_take]; omega
      rw [e]
      refine ⟨rfl, disk_now H.out.1 H.out.2.2.1 (xo := ao) (xc := m) ?_ ?_ (fun a h => .inl h) ⟨by show (d.b.take m).length ≤ d.room; rw [hl]; have := H.out.2.2.2.len; omega, by show min d.sure m ≤ (d.b.take m).length; rw [hl]; omega, H.out.2.2.2.room⟩ (Chg.drew (Chg.set (Chg.set (Chg.refl _ _) (.inl rfl) _ _) (.inl rfl) _ _))⟩
      · refine (heap_set (heap_set H.out.1 _ _) _ _).trans ?_
        simp only [Dsk.cells, hl]
        simp
        omega
      · show Own _ 1 ao (d.b.take m).length m ((d.b.take m).map cb)
        rw [hl, List.map_take]
        have h1 := H.out.2.1.cut (m := m) (Nat.le_refl _) hm (by omega)
        rw [Nat.mul_one] at h1
        exact ((h1.keep (Chg.one _ p 2 _) H.out.2.2.1).keep (Chg.one _ p 1 _) H.out.2.2.1).drew

/-- How many bytes a crash leaves. -/
def Dsk.upto (d : Dsk) (keep : Int) : Nat := d.sure + (max 0 (min keep ((d.b.length : Int) - d.sure))).toNat
def Dsk.crash (d : Dsk) (keep bit : Int) : Dsk :=
  ⟨d.room, d.upto keep, if d.sure < d.upto keep ∧ 0 ≤ bit ∧ bit < 8 then (d.b.take (d.upto keep)).modify (d.upto keep - 1) (· ^^^ UInt8.ofNat (2 ^ bit.toNat)) else d.b.take (d.upto keep)⟩
theorem Dsk.upto_le (d : Dsk) (keep : Int) (h : d.sure ≤ d.b.length) : d.sure ≤ d.upto keep ∧ d.upto keep ≤ d.b.length := by unfold Dsk.upto; omega
theorem modify_cells {l : List UInt8} {n : Nat} (v : UInt8) (hn : n < l.length) : (l.modify n (· ^^^ v)).map cb = (l.map cb).set n (cb (l[n] ^^^ v)) := by
  apply List.ext_getElem?
  intro j
  rw [List.getElem?_map, List.getElem?_modify, List.getElem?_set]
  by_cases e : n = j
  · subst e; simp [hn]
  · simp [e]
theorem shl_bit (n : Nat) (h : n < 8) : (2 : Int) ^ n % 256 = ((UInt8.ofNat (2 ^ n)).toNat : Int) := by
  have : ∀ r : Fin 8, (2 : Int) ^ r.val % 256 = ((UInt8.ofNat (2 ^ r.val)).toNat : Int) := by decide
  exact this ⟨n, h⟩
theorem crash_any (p : Nat) (d : Dsk) (F : List Nat) (keep bit : Int) (w : World) (h : DiskAt 102 w p d F) (hk : -9223372036854775808 ≤ keep ∧ keep ≤ 9223372036854775807) :
    Calls Tryz.prog 21 #[.pointer (some ⟨p, 0, none⟩), .int .i64 keep, .int .i64 bit] w fun e w' => e = .returned (.tuple #[]) ∧ DiskNow 102 w p F (d.crash keep bit) w' := by
  have HA := Lib.hid h
  obtain ⟨ao, cap, h1, h2, h3, rfl, h5⟩ := h
  obtain ⟨c0, c1, c2, f1, f2⟩ := dcell h1
  have H := Lib.hid (And.intro h1 (And.intro h2 (And.intro h3 h5)))
  have hcap := h2.le
  have hsure := h5.sure
  have hlen := h5.len
  have hroom := h5.room
  clear h1 h2 h3 h5
  go_enter Tryz.func21, Tryz.ntmps21
  go_upto_region 1 with fail
  go_cut [6] (fun s wx => s = .int .i64 (d.upto keep : Int) ∧ ∃ n, wx = w.drewN n)
  case first =>
    go_quiet (fail)
    go_wp2_with fail
    all_goals (go_meet; exact ⟨congrArg _ (by unfold Dsk.upto; omega), _, rfl⟩)
  case rest =>
    obtain ⟨rfl, nd, rfl⟩ := hcut
    obtain ⟨m1, m2⟩ := d.upto_le keep hsure
    have HD := Lib.hid (show d.crash keep bit = ⟨d.room, d.upto keep, if d.sure < d.upto keep ∧ 0 ≤ bit ∧ bit < 8 then (d.b.take (d.upto keep)).modify (d.upto keep - 1) (· ^^^ UInt8.ofNat (2 ^ bit.toNat)) else d.b.take (d.upto keep)⟩ from rfl)
    generalize d.upto keep = m at *
    by_cases hc : d.sure < m ∧ 0 ≤ bit ∧ bit < 8
    · obtain ⟨hc1, hc2, hc3⟩ := hc
      obtain ⟨j, rfl⟩ : ∃ j : Nat, bit = (j : Int) := ⟨bit.toNat, by omega⟩
      have hj : j < 8 := by omega
      have hlm : (d.b.take m).length = m := by rw [List.length_take]; omega
      have e : d.crash keep j = ⟨d.room, m, (d.b.take m).modify (m - 1) (· ^^^ UInt8.ofNat (2 ^ j))⟩ := by rw [HD.out, if_pos ⟨hc1, hc2, hc3⟩]; rfl
      have hq : m - 1 < (d.b.take m).length := by omega
      have HQ := Lib.hid hq
      clear hq
      have HE := Lib.hid e
      have HLM := Lib.hid hlm
      clear e hlm HD
      go_wp2_with (go_at_call 46; (with_reducible refine (clone_any _ _ _ (d.b.take m) _ (by rw [List.length_take]; omega) (by omega) ((H.out.2.1.bts.take m).drewN nd)).mono ?_); rintro e w2 ⟨bo, xc, rfl, hb, ho, hx⟩; have hp : w2.heap[p]? = some (.cells (d.cells ao cap) 102 (0, 0)) := (Chg.of_below hb (fun _ => False)).heap H.out.1 (fun h => h); obtain ⟨_, g1, g2, g3, g4⟩ := dcell hp; obtain ⟨xb, xoff, rfl, _⟩ := ho.row (by intro q; have := congrArg List.length q; rw [List.length_map, HLM.out, List.length_nil] at this; omega); have hpx : p < xb := Nat.lt_of_lt_of_le (heap_lt H.out.1) (hx _ rfl); obtain ⟨v, ek, k1, k2⟩ := own_at (k := m - 1) ho HQ.out; have EK := Lib.hid ek; have HP := Lib.hid hp; have HB := Lib.hid hb; have HO := Lib.hid ho; have HX := Lib.hid hx; clear hb ho hx hp ek)
      go_region
      go_wp2
      go_end0
      have hlm := HLM.out
      have hpx : ∀ a, (some (⟨xb, xoff, none⟩ : Addr)) = some a → a.block ≠ p := by rintro a ⟨⟩; show xb ≠ p; omega
      have e0 := EK.out
      rw [List.getElem?_eq_getElem HQ.out] at e0
      cases e0
      have hl2 : ((d.b.take m).modify (m - 1) (· ^^^ UInt8.ofNat (2 ^ j))).length = m := by rw [List.length_modify]; exact hlm
      rw [HE.out]
      refine ⟨rfl, disk_now H.out.1 H.out.2.2.1 (xo := some ⟨xb, xoff, none⟩) (xc := xc) ?_ ?_ (fun a h => .inr (HX.out a h)) ⟨by show List.length (List.modify _ _ _) ≤ d.room; rw [hl2]; omega, by show m ≤ List.length (List.modify _ _ _); rw [hl2]; exact Nat.le_refl _, hroom⟩ ?_⟩
      · refine (heap_set (heap_far (heap_set HP.out _ _) (by show p ≠ xb; omega) _) _ _).trans ?_
        simp only [Dsk.cells, hl2]
        simp
      · show Own _ 1 (some ⟨xb, xoff, none⟩) (List.length (List.modify _ _ _)) xc (List.map cb (List.modify _ _ _))
        rw [hl2, modify_cells _ HQ.out, shl_bit j hj, xor8]
        exact (((HO.out.keep (Chg.one _ p 2 _) hpx).set (m - 1) (cb ((d.b.take m)[m - 1] ^^^ UInt8.ofNat (2 ^ j))) (by omega)).keep (Chg.one _ p 1 _) hpx).drew
      · exact (Chg.set (Chg.setCell (Chg.set ((Chg.of_below HB.out _).undrewN) (.inl rfl) _ _) (fun h => absurd h (by show ¬ xb < w.heap.size; have := HX.out _ rfl; exact Nat.not_lt.2 this)) _) (.inl rfl) _ _).drew
    · have hc' : d.sure < m → 0 ≤ bit → 8 ≤ bit := fun a b => by omega
      go_wp2_with (go_at_call 46; (with_reducible refine (clone_any _ _ _ (d.b.take m) _ (by rw [List.length_take]; omega) (by omega) ((H.out.2.1.bts.take m).drewN nd)).mono ?_); rintro e w2 ⟨bo, xc, rfl, hb, ho, hx⟩; have hp : w2.heap[p]? = some (.cells (d.cells ao cap) 102 (0, 0)) := (Chg.of_below hb (fun _ => False)).heap H.out.1 (fun h => h); obtain ⟨_, g1, g2, g3, g4⟩ := dcell hp; have HP := Lib.hid hp; have HB := Lib.hid hb; have HO := Lib.hid ho; have HX := Lib.hid hx; clear hb ho hx hp)
      all_goals
        go_end0
        have hlm : (d.b.take m).length = m := by rw [List.length_take]; omega
        have hpx : ∀ a, bo = some a → a.block ≠ p := by
          intro a ha
          have h1 : w.heap.size ≤ a.block := HX.out a ha
          have h2 := heap_lt H.out.1
          omega
        rw [HD.out, if_neg (by omega)]
        refine ⟨rfl, disk_now H.out.1 H.out.2.2.1 (xo := bo) (xc := xc) ?_ ?_ (fun a h => .inr (HX.out a h)) ⟨by show (d.b.take m).length ≤ d.room; rw [hlm]; omega, by show m ≤ (d.b.take m).length; rw [hlm]; exact Nat.le_refl _, hroom⟩ (Chg.set (Chg.set ((Chg.of_below HB.out _).undrewN) (.inl rfl) _ _) (.inl rfl) _ _)⟩
        · refine (heap_set (heap_set HP.out _ _) _ _).trans ?_
          simp only [Dsk.cells, hlm]
          simp
        · show Own _ 1 bo (d.b.take m).length xc ((d.b.take m).map cb)
          rw [hlm]
          exact (HO.out.keep (Chg.one _ p 2 _) hpx).keep (Chg.one _ p 1 _) hpx
end Go.Proofs.YtackmgmaippajaaGreat.Jr
-- part DiskR
namespace Go.Proofs.YtackmgmaippajaaGreat.Jr
set_option maxRecDepth 100000
open Go Go.RowKit

theorem rappend_any (p : Nat) (d : Dsk) (F : List Nat) (bo : Option Addr) (n c : Nat) (ys : List UInt8) (w : World) (h : DiskAt 72 w p d F) (hl : ys.length = n) (hb : Bts w bo ys) (hn0 : n ≤ 140737488351232) :
    Calls Tryz.prog 93 #[.pointer (some ⟨p, 0, none⟩), .slice bo n c] w (DiskPost 72 w p F (d.append ys).1 (d.append ys).2) := by
  have HA := Lib.hid h
  obtain ⟨ao, cap, h1, h2, h3, rfl, h5⟩ := h
  obtain ⟨c0, c1, c2, f1, f2⟩ := dcell h1
  have hr := h5.room
  have hlr := h5.len
  have HB := Lib.hid hb
  have HL := Lib.hid hl
  have H := Lib.hid (And.intro h1 (And.intro h2 (And.intro h3 h5)))
  clear h1 h2 h3 h5 hb hl
  by_cases hn : d.room < d.b.length + n
  · go_enter Tryz.func93, Tryz.ntmps93
    go_wp2
    go_quiet (fail)
    go_wp2
    go_ret
    have e : d.append ys = (8, d) := by rw [Dsk.append, if_pos (by rw [HL.out]; omega)]
    rw [e]
    exact ⟨rfl, _, HA.out.drewN _, (Chg.refl _ _).drewN _, Grew.refl _ _⟩
  · have hn' : d.b.length + n ≤ d.room := by omega
    have hpl : p < w.heap.size := heap_lt H.out.1
    go_enter Tryz.func93, Tryz.ntmps93
    go_wp2
    go_quiet (fail)
    have hq := Lib.hid ((Chg.refl (fun _ => False) w).drewN nq)
    have HB' := Lib.hid (HB.out.drewN nq)
    have HO0 := Lib.hid (H.out.2.1.drewN nq)
    have hp0 := hq.out.heap H.out.1 (fun h => h)
    obtain ⟨_, _, k2, _, _⟩ := dcell hp0
    have hpl : p < (w.drewN nq).heap.size := heap_lt hp0
    have HP0 := Lib.hid hp0
    clear hp0
    generalize w.drewN nq = wq at *
    go_wp2_with (first
      | (at_builtin; refine wpList_append' rfl (.tmp 19) (.tmp 23) el_u8 rfl rfl rfl (Own.alloc0 _ 1 _ _) (by rw [List.length_map, Nat.mul_one]) (HO0.out.bts.below ((Below.refl _ _).alloc (Nat.le_refl _) _)) (one_cb d.b) (by unfold maxLen; omega) (by omega) ?_; intro xo xc w2 hx hch _ hx2; simp only [Nat.zero_add, List.nil_append] at hx; have HO := Lib.hid hx; have HC2 := Lib.hid (chg_new (Below.refl _ _) hch); have HX2 := Lib.hid (new_blk (Below.refl _ _) hx2); clear hx hch hx2)
      | (at_builtin; refine wpList_append' rfl (.tmp 24) (.tmp 25) el_u8 rfl rfl rfl HO.out (by rw [List.length_map, HL.out, Nat.mul_one]) (HB'.out.below HC2.out) (one_cb ys) (by unfold maxLen; omega) (by omega) ?_; intro yo yc w3 hx hch _ hx2; have hb3 := chg_on HC2.out hch HC2.out.size HX2.out; have hp : w3.heap[p]? = some (.cells (d.cells ao cap) 72 (0, 0)) := (Chg.of_below hb3 (fun _ => False)).heap HP0.out (fun h => h); obtain ⟨_, _, g2, _, g3⟩ := dcell hp; have HP := Lib.hid hp; have HB3 := Lib.hid hb3; have HO2 := Lib.hid hx; have HX3 := Lib.hid (show ∀ a, yo = some a → wq.heap.size ≤ a.block from fun a h => (hx2 a h).elim (fun e => HX2.out a e) (fun e => Nat.le_trans HC2.out.size e)); clear hx hch hx2 hp hb3))
    go_ret
    have e : d.append ys = (0, { d with b := d.b ++ ys }) := by rw [Dsk.append, if_neg (by rw [HL.out]; omega)]
    rw [e]
    have hlen : (d.b ++ ys).length = d.b.length + n := by rw [List.length_append, HL.out]
    have hpx : ∀ a, yo = some a → a.block ≠ p := by
      intro a ha
      have h1 : wq.heap.size ≤ a.block := HX3.out a ha
      omega
    refine ⟨rfl, disk_now H.out.1 H.out.2.2.1 (xo := yo) (xc := yc) ?_ ?_ (fun a h => .inr (Nat.le_trans hq.out.size (HX3.out a h))) ⟨by show (d.b ++ ys).length ≤ d.room; rw [hlen]; exact hn', by show d.sure ≤ (d.b ++ ys).length; rw [hlen]; have := H.out.2.2.2.sure; omega, H.out.2.2.2.room⟩ (Chg.set ((hq.out.to (fun _ h => h.elim)).trans (Chg.of_below HB3.out (fun _ => False)) (fun _ _ h => h.elim)) (.inl rfl) _ _)⟩
    · rw [heap_set HP.out 2 _]; simp [Dsk.cells, hlen]
    · show Own _ 1 yo (d.b ++ ys).length yc ((d.b ++ ys).map cb)
      rw [hlen, List.map_append]
      exact HO2.out.keep (Chg.one _ _ _ _) hpx
end Go.Proofs.YtackmgmaippajaaGreat.Jr
