/-
  JOINED BY fam.py out of: PackW, PackR, PackM, PackU, CrcT, CrcW, PackT, PackV, PackF, PackK, PackG.
-/
import Derived.Test.YtackmgmaippajaaGreatProg
import Derived.Test.YtackmgmaippajaaGreatFB
import Derived.Deep.LoopGhost
import Derived.Deep.QuietTactic
import Derived.BigQuiet
import Derived.WalkLawsBesides
import Derived.WalkSpells
import Derived.Lib.SliceRun
import Derived.Deep.DeepCutAuto
import Derived.Deep.CutBlock
import Derived.Deep.RegionLaw
import Derived.Defers
import Derived.Recover
import Derived.Lib.SlBytesConst
import Derived.KernelRfl
import Derived.Deep.RegionWith
import Derived.Deep.RegionHeld3
import Derived.OwnWalk
-- part PackW
namespace Go.Proofs.YtackmgmaippajaaGreat
set_option maxRecDepth 100000
open Go Go.RowKit

/-- A thing at block p whose one field is a slice of bytes of its own; F: its blocks. -/
def WrAt (w : World) (p : Nat) (bs : List UInt8) (F : List Nat) : Prop :=
  ∃ ao cap, w.heap[p]? = some (.cells #[.slice ao bs.length cap] 161 (0, 0)) ∧ Own w 1 ao bs.length cap (bs.map cb) ∧ (∀ a, ao = some a → a.block ≠ p) ∧ F = p :: (ao.map (·.block)).toList
theorem WrAt.lt {w : World} {p : Nat} {bs : List UInt8} {F : List Nat} (h : WrAt w p bs F) : ∀ k ∈ F, k < w.heap.size := by
  obtain ⟨ao, cap, h1, h2, h3, rfl⟩ := h
  intro k hk
  rcases List.mem_cons.1 hk with rfl | hk
  · exact heap_lt h1
  · cases ao with
    | none => simp at hk
    | some a => simp at hk; subst hk; exact (h2.at_ a rfl).2.1
theorem WrAt.keep {w w' : World} {p : Nat} {bs : List UInt8} {F : List Nat} (h : WrAt w p bs F) {S : Nat → Prop} (hc : Chg S w w') (hS : ∀ k ∈ F, ¬ S k) : WrAt w' p bs F := by
  obtain ⟨ao, cap, h1, h2, h3, rfl⟩ := h
  refine ⟨ao, cap, hc.heap h1 (hS _ (by simp)), h2.keep hc ?_, h3, rfl⟩
  rintro a rfl; exact hS _ (by simp)
/-- The writer as it is behind a call; nothing else has turned. -/
def WrNow (w : World) (p : Nat) (F : List Nat) (bs : List UInt8) (w' : World) : Prop := ∃ F', WrAt w' p bs F' ∧ Chg (· ∈ F) w w' ∧ Grew w F F'
theorem wr_now {w w2 : World} {p : Nat} {bs bs' : List UInt8} {ao xo : Option Addr} {cap xc : Nat} (h1 : w.heap[p]? = some (.cells #[.slice ao bs.length cap] 161 (0, 0))) (h3 : ∀ a, ao = some a → a.block ≠ p)
    (hp : w2.heap[p]? = some (.cells #[.slice xo bs'.length xc] 161 (0, 0))) (ho : Own w2 1 xo bs'.length xc (bs'.map cb)) (hx : ∀ a, xo = some a → ao = some a ∨ w.heap.size ≤ a.block)
    (hc : Chg (fun k => k = p ∨ ∃ a, ao = some a ∧ a.block = k) w w2) : WrNow w p (p :: (ao.map (·.block)).toList) bs' w2 := by
  have hpl : p < w.heap.size := heap_lt h1
  refine ⟨_, ⟨xo, xc, hp, ho, ?_, rfl⟩, hc.to ?_, ?_⟩
  · intro a ha
    rcases hx a ha with e | e
    · exact h3 a e
    · omega
  · rintro k (rfl | ⟨a, rfl, rfl⟩) <;> simp
  · intro k hk
    rcases List.mem_cons.1 hk with rfl | hk
    · exact .inl (by simp)
    · cases xo with
      | none => simp at hk
      | some a =>
        simp at hk; subst hk
        rcases hx a rfl with e | e
        · left; rw [e]; simp
        · exact .inr e
/-- What 'x.b = append(x.b, ys...)' leaves. -/
theorem wr_app {w w1 w4 : World} {p : Nat} {bs : List UInt8} {ao so : Option Addr} {cap sc m : Nat} (ys : List UInt8) (hm : ys.length = m) (h1 : w.heap[p]? = some (.cells #[.slice ao bs.length cap] 161 (0, 0))) (h3 : ∀ a, ao = some a → a.block ≠ p)
    (hb : Below w.heap.size w w1) (hx : Own w4 1 so (bs.length + m) sc (bs.map cb ++ ys.map cb)) (hch : Chg (fun k => ∃ a, ao = some a ∧ a.block = k) w1 w4) (hx2 : ∀ a', so = some a' → ao = some a' ∨ w1.heap.size ≤ a'.block) :
    WrNow w p (p :: (ao.map (·.block)).toList) (bs ++ ys) (w4.setCell ⟨p, 0, none⟩ (.slice so (bs.length + m) sc)) := by
  subst hm
  have hpl := heap_lt h1
  have hp1 := (Chg.of_below hb (fun _ => False)).heap h1 (fun h => h)
  have hp4 := hch.heap hp1 (by rintro ⟨a, e1, e2⟩; exact h3 a e1 e2)
  have hne : ∀ a, so = some a → a.block ≠ p := by
    intro a ha
    rcases hx2 a ha with e | e
    · exact h3 a e
    · have := hb.size; omega
  refine wr_now h1 h3 (xo := so) (xc := sc) ?_ ?_ (fun a ha => (hx2 a ha).imp id (Nat.le_trans hb.size)) ?_
  · rw [heap_set hp4 0 _]; simp
  · rw [← List.map_append, ← List.length_append] at hx
    rw [List.length_append] at hx ⊢
    exact hx.keep (Chg.one _ _ _ _) hne
  · refine ((Chg.of_below hb _).trans hch ?_).set (.inl rfl) _ _
    rintro k _ ⟨a, rfl, rfl⟩; exact .inr ⟨a, rfl, rfl⟩
/-- A number as so many bytes, the greatest first. -/
def be (size n : Nat) : List UInt8 := (List.range size).map fun j => UInt8.ofNat (n / 256 ^ (size - 1 - j))
theorem be_length (size n : Nat) : (be size n).length = size := by simp [be]
theorem be_get (size n j : Nat) (h : j < size) : (be size n)[j]? = some (UInt8.ofNat (n / 256 ^ (size - 1 - j))) := by
  simp [be, h]
theorem be_drop (size n : Nat) (h : size ≤ 8) : (be 8 n).drop (8 - size) = be size n := by
  apply List.ext_getElem?
  intro j
  rw [List.getElem?_drop]
  by_cases hj : j < size
  · rw [be_get _ _ _ (by omega), be_get _ _ _ hj]
    congr 4; omega
  · rw [List.getElem?_eq_none (by rw [be_length]; omega), List.getElem?_eq_none (by rw [be_length]; omega)]
theorem shr_be (n i : Nat) : ((n : Int) / 2 ^ (8 * i) % 256) = ((UInt8.ofNat (n / 256 ^ i)).toNat : Int) := by
  rw [UInt8.toNat_ofNat', show (256 : Nat) ^ i = 2 ^ (8 * i) by rw [Nat.pow_mul]]
  simp only [Int.natCast_emod, Int.natCast_ediv, Int.natCast_pow, Int.cast_ofNat_Int]
  rfl
theorem be_of (n : Nat) {l : List UInt8} (hl : l.length = 8) (h : ∀ j, j < 8 → l[7 - j]? = some (UInt8.ofNat (n / 256 ^ j))) : l = be 8 n := by
  apply List.ext_getElem?
  intro j
  by_cases hj : j < 8
  · have := h (7 - j) (by omega)
    rw [show 7 - (7 - j) = j by omega] at this
    rw [this, be_get _ _ _ hj]
  · rw [List.getElem?_eq_none (by omega), List.getElem?_eq_none (by rw [be_length]; omega)]
set_option maxHeartbeats 1000000 in
theorem number_any (p : Nat) (bs : List UInt8) (F : List Nat) (n size : Nat) (w : World) (h : WrAt w p bs F) (_hn : n < 18446744073709551616) (hs : size = 1 ∨ size = 2 ∨ size = 4 ∨ size = 8) (hb : bs.length ≤ 70368744177664) :
    Calls Tryz.prog 120 #[.pointer (some ⟨p, 0, none⟩), .int .u64 (n : Int), .int .i64 (size : Int)] w fun e w' => e = .returned (.tuple #[]) ∧ WrNow w p F (bs ++ be size n) w' := by
  obtain ⟨ao, cap, h1, h2, h3, rfl⟩ := h
  have HS := Lib.hid hs
  have H := Lib.hid (And.intro h1 (And.intro h2 h3))
  clear h1 h2 h3 hs
  go_enter Tryz.func120, Tryz.ntmps120
  go_wp2
  have ho := Own.alloc w 1 8 8 #[.int .u8 0, .int .u8 0, .int .u8 0, .int .u8 0, .int .u8 0, .int .u8 0, .int .u8 0, .int .u8 0] 213 ((List.replicate 8 (0 : UInt8)).map cb) (by simp) (Nat.le_refl _) (by unfold maxLen; omega) (by simp) rfl
  have HO := Lib.hid ho
  clear ho
  have HB0 := Lib.hid ((Below.refl _ w).alloc (Nat.le_refl _) (.cells #[.int .u8 0, .int .u8 0, .int .u8 0, .int .u8 0, .int .u8 0, .int .u8 0, .int .u8 0, .int .u8 0] 213))
  generalize hg : w.heap.size = g at *
  have HG := Lib.hid hg
  clear hg
  go_loopg [8] 8 (fun k i wr => ∃ (j : Nat) (l : List UInt8), k + j = 8 ∧ i = .int .i64 j ∧ l.length = 8 ∧ Own wr 1 (some ⟨g, 0, none⟩) 8 8 (l.map cb) ∧ Below g w wr ∧ ∀ i, i < j → l[7 - i]? = some (UInt8.ofNat (n / 256 ^ i)))
  case atStart => exact ⟨0, _, by omega, rfl, by simp, HO.out, HB0.out, fun i hi => by omega⟩
  case round =>
    obtain ⟨j, l, hj, rfl, hll, hown, hbel, hget⟩ := hrel
    by_cases hlt : j < 8
    · obtain ⟨x, ex, d1, d2⟩ := own_at hown (k := 7 - j) (by omega)
      rw [Nat.zero_add] at d1 d2
      have HR := Lib.hid (And.intro hll (And.intro hown (And.intro hbel hget)))
      clear hll hown hbel hget ex
      go_wp2
      go_roundg (gk - 1)
      case measure => omega
      case rel =>
        obtain ⟨hll, hown, hbel, hget⟩ := HR.out
        refine ⟨j + 1, l.set (7 - j) (UInt8.ofNat (n / 256 ^ j)), by omega, by go_num, by rw [List.length_set]; exact hll, ?_, ?_, fun i hi => ?_⟩
        · rw [shr_be, List.map_set]
          have h1 := hown.set (7 - j) (cb (UInt8.ofNat (n / 256 ^ j))) (by omega)
          rw [Nat.zero_add] at h1
          exact h1
        · exact hbel.setCell (Nat.le_refl _) _
        · by_cases e : i = j
          · subst e; rw [List.getElem?_set_self (by omega)]
          · rw [List.getElem?_set_ne (by omega)]; exact hget i (by omega)
    · have hl8 := be_of n hll (fun i hi => hget i (by omega))
      subst hl8
      have HR := Lib.hid (And.intro hown hbel)
      have hp := hbel.block p (by rw [← HG.out]; exact heap_lt H.out.1)
      rw [H.out.1] at hp
      have c0 := heap_cell hp 0
      have f0 := heap_frozen hp 0
      simp at c0
      have HP := Lib.hid hp
      clear hown hbel hget hll hp
      have hbs := hb
      go_wp2
      have HO1 := Lib.hid ((H.out.2.1.keep (Chg.of_below (show Below w.heap.size w wr from HG.out ▸ HR.out.2) (fun _ => False)) (fun _ _ h => h)).drew)
      have hsrc : ∀ size, size ≤ 8 → Bts wr.drew (some ⟨g, 8 - size, none⟩) (be size n) := fun size hs => by
        have h1 := (HR.out.1.bts.drop (8 - size)).drew
        rw [be_drop size n hs, Nat.zero_add] at h1
        exact h1
      have HSRC := Lib.hid hsrc
      clear hsrc
      have E7 : IntKind.i64.wrap 7 = 7 := by decide
      have E6 : IntKind.i64.wrap 6 = 6 := by decide
      have E4 : IntKind.i64.wrap 4 = 4 := by decide
      have E0 : IntKind.i64.wrap 0 = 0 := by decide
      have hbw : Below w.heap.size w wr := HG.out ▸ HR.out.2
      have HBW := Lib.hid hbw
      clear hbw
      rcases HS.out with rfl | rfl | rfl | rfl
      · go_region_law (refine step_append' rfl (.tmp 26) (.tmp 29) el_u8 rfl rfl rfl HO1.out (by rw [List.length_map, be_length]) (HSRC.out 1 (by omega)) (one_cb _) (by unfold maxLen; omega) (by omega) ?_; intro so sc w4 hx hch _ hx2; have hp4 := hch.undrew.heap HP.out (by rintro ⟨a, e1, e2⟩; exact H.out.2.2 a e1 e2); have z0 := heap_cell hp4 0; have z1 := heap_frozen hp4 0; simp at z0; have HX := Lib.hid (And.intro hx (And.intro hch (And.intro hx2 hp4))); clear hx hch hx2 hp4)
        go_wp2
        all_goals (go_end0; exact ⟨rfl, wr_app (be 1 n) (be_length _ _) H.out.1 H.out.2.2 HBW.out HX.out.1 HX.out.2.1.undrew HX.out.2.2.1⟩)
      · go_region_law (refine step_append' rfl (.tmp 26) (.tmp 29) el_u8 rfl rfl rfl HO1.out (by rw [List.length_map, be_length]) (HSRC.out 2 (by omega)) (one_cb _) (by unfold maxLen; omega) (by omega) ?_; intro so sc w4 hx hch _ hx2; have hp4 := hch.undrew.heap HP.out (by rintro ⟨a, e1, e2⟩; exact H.out.2.2 a e1 e2); have z0 := heap_cell hp4 0; have z1 := heap_frozen hp4 0; simp at z0; have HX := Lib.hid (And.intro hx (And.intro hch (And.intro hx2 hp4))); clear hx hch hx2 hp4)
        go_wp2
        all_goals (go_end0; exact ⟨rfl, wr_app (be 2 n) (be_length _ _) H.out.1 H.out.2.2 HBW.out HX.out.1 HX.out.2.1.undrew HX.out.2.2.1⟩)
      · go_region_law (refine step_append' rfl (.tmp 26) (.tmp 29) el_u8 rfl rfl rfl HO1.out (by rw [List.length_map, be_length]) (HSRC.out 4 (by omega)) (one_cb _) (by unfold maxLen; omega) (by omega) ?_; intro so sc w4 hx hch _ hx2; have hp4 := hch.undrew.heap HP.out (by rintro ⟨a, e1, e2⟩; exact H.out.2.2 a e1 e2); have z0 := heap_cell hp4 0; have z1 := heap_frozen hp4 0; simp at z0; have HX := Lib.hid (And.intro hx (And.intro hch (And.intro hx2 hp4))); clear hx hch hx2 hp4)
        go_wp2
        all_goals (go_end0; exact ⟨rfl, wr_app (be 4 n) (be_length _ _) H.out.1 H.out.2.2 HBW.out HX.out.1 HX.out.2.1.undrew HX.out.2.2.1⟩)
      · go_region_law (refine step_append' rfl (.tmp 26) (.tmp 29) el_u8 rfl rfl rfl HO1.out (by rw [List.length_map, be_length]) (HSRC.out 8 (by omega)) (one_cb _) (by unfold maxLen; omega) (by omega) ?_; intro so sc w4 hx hch _ hx2; have hp4 := hch.undrew.heap HP.out (by rintro ⟨a, e1, e2⟩; exact H.out.2.2 a e1 e2); have z0 := heap_cell hp4 0; have z1 := heap_frozen hp4 0; simp at z0; have HX := Lib.hid (And.intro hx (And.intro hch (And.intro hx2 hp4))); clear hx hch hx2 hp4)
        go_wp2
        all_goals (go_end0; exact ⟨rfl, wr_app (be 8 n) (be_length _ _) H.out.1 H.out.2.2 HBW.out HX.out.1 HX.out.2.1.undrew HX.out.2.2.1⟩)
theorem u8_any (p : Nat) (bs : List UInt8) (F : List Nat) (n : Nat) (w : World) (h : WrAt w p bs F) (hn : n < 256) (hb : bs.length ≤ 70368744177664) :
    Calls Tryz.prog 88 #[.pointer (some ⟨p, 0, none⟩), .int .u8 (n : Int)] w fun e w' => e = .returned (.tuple #[]) ∧ WrNow w p F (bs ++ be 1 n) w' := by
  have H := Lib.hid h; clear h
  go_enter Tryz.func88, Tryz.ntmps88
  go_wp2_with (go_at_call 120; (refine (number_any p bs F n 1 _ H.out (by omega) (by decide) hb).mono ?_); rintro e w' ⟨rfl, hn⟩; have HN := Lib.hid hn; clear hn)
  go_end0
  exact ⟨rfl, HN.out⟩
theorem u16_any (p : Nat) (bs : List UInt8) (F : List Nat) (n : Nat) (w : World) (h : WrAt w p bs F) (hn : n < 65536) (hb : bs.length ≤ 70368744177664) :
    Calls Tryz.prog 92 #[.pointer (some ⟨p, 0, none⟩), .int .u16 (n : Int)] w fun e w' => e = .returned (.tuple #[]) ∧ WrNow w p F (bs ++ be 2 n) w' := by
  have H := Lib.hid h; clear h
  go_enter Tryz.func92, Tryz.ntmps92
  go_wp2_with (go_at_call 120; (refine (number_any p bs F n 2 _ H.out (by omega) (by decide) hb).mono ?_); rintro e w' ⟨rfl, hn⟩; have HN := Lib.hid hn; clear hn)
  go_end0
  exact ⟨rfl, HN.out⟩
theorem u32_any (p : Nat) (bs : List UInt8) (F : List Nat) (n : Nat) (w : World) (h : WrAt w p bs F) (hn : n < 4294967296) (hb : bs.length ≤ 70368744177664) :
    Calls Tryz.prog 119 #[.pointer (some ⟨p, 0, none⟩), .int .u32 (n : Int)] w fun e w' => e = .returned (.tuple #[]) ∧ WrNow w p F (bs ++ be 4 n) w' := by
  have H := Lib.hid h; clear h
  go_enter Tryz.func119, Tryz.ntmps119
  go_wp2_with (go_at_call 120; (refine (number_any p bs F n 4 _ H.out (by omega) (by decide) hb).mono ?_); rintro e w' ⟨rfl, hn⟩; have HN := Lib.hid hn; clear hn)
  go_end0
  exact ⟨rfl, HN.out⟩
theorem u64_any (p : Nat) (bs : List UInt8) (F : List Nat) (n : Nat) (w : World) (h : WrAt w p bs F) (hn : n < 18446744073709551616) (hb : bs.length ≤ 70368744177664) :
    Calls Tryz.prog 90 #[.pointer (some ⟨p, 0, none⟩), .int .u64 (n : Int)] w fun e w' => e = .returned (.tuple #[]) ∧ WrNow w p F (bs ++ be 8 n) w' := by
  have H := Lib.hid h; clear h
  go_enter Tryz.func90, Tryz.ntmps90
  go_wp2_with (go_at_call 120; (refine (number_any p bs F n 8 _ H.out (by omega) (by decide) hb).mono ?_); rintro e w' ⟨rfl, hn⟩; have HN := Lib.hid hn; clear hn)
  go_end0
  exact ⟨rfl, HN.out⟩
theorem WrNow.trans {w w1 w2 : World} {p : Nat} {F : List Nat} {b1 b2 : List UInt8} (_hF : ∀ k ∈ F, k < w.heap.size) (h : WrNow w p F b1 w1) (h2 : ∀ F1, WrAt w1 p b1 F1 → Chg (· ∈ F) w w1 → Grew w F F1 → WrNow w1 p F1 b2 w2) : WrNow w p F b2 w2 := by
  obtain ⟨F1, ha, hc, hg⟩ := h
  obtain ⟨F2, ha2, hc2, hg2⟩ := h2 F1 ha hc hg
  refine ⟨F2, ha2, hc.trans hc2 fun k hk h1 => ?_, fun k hk => ?_⟩
  · rcases hg k h1 with h | h
    · exact h
    · exact absurd hk (Nat.not_lt.2 h)
  · rcases hg2 k hk with h | h
    · exact hg k h
    · exact .inr (Nat.le_trans hc.size h)
theorem WrNow.from {w w1 w2 : World} {p : Nat} {F : List Nat} {b : List UInt8} (h : WrNow w1 p F b w2) (hb : Below w.heap.size w w1) : WrNow w p F b w2 := by
  obtain ⟨F1, ha, hc, hg⟩ := h
  exact ⟨F1, ha, (Chg.of_below hb (fun _ => False)).to (fun _ h => h.elim) |>.trans hc (fun _ _ h => h), fun k hk => (hg k hk).imp id (Nat.le_trans hb.size)⟩
theorem WrAt.below {w w' : World} {p : Nat} {bs : List UInt8} {F : List Nat} (h : WrAt w p bs F) (hb : Below w.heap.size w w') : WrAt w' p bs F := h.keep (Chg.of_below hb (fun _ => False)) (fun _ _ h => h)
theorem Chg.bts {S : Nat → Prop} {w w' : World} {ao : Option Addr} {bs : List UInt8} (hc : Chg S w w') (h : Bts w ao bs) (hd : bs ≠ [] → ∀ a, ao = some a → ¬ S a.block) : Bts w' ao bs := by
  by_cases hz : bs = []
  · rw [hz]; exact Bts.nil _ _
  · exact hc.row h (hd hz)
theorem wbytes_any (p : Nat) (bs : List UInt8) (F : List Nat) (bo : Option Addr) (n c : Nat) (ys : List UInt8) (w : World) (h : WrAt w p bs F) (hl : ys.length = n) (hy : Bts w bo ys) (hd : ys ≠ [] → ∀ a, bo = some a → a.block ∉ F) (hn : n ≤ 4294967295) (hb : bs.length ≤ 4398046511104) :
    Calls Tryz.prog 89 #[.pointer (some ⟨p, 0, none⟩), .slice bo n c] w fun e w' => e = .returned (.tuple #[]) ∧ WrNow w p F (bs ++ be 4 n ++ ys) w' := by
  have H := Lib.hid h
  have HY := Lib.hid hy
  have HD := Lib.hid hd
  have HL := Lib.hid hl
  clear h hy hd hl
  go_enter Tryz.func89, Tryz.ntmps89
  go_wp2_with (first
    | (go_at_call 120; (refine (number_any p bs F n 4 _ H.out (by omega) (by decide) (by omega)).mono ?_); rintro e w1 ⟨rfl, hn1⟩; obtain ⟨B, hB⟩ : ∃ B, B = bs ++ be 4 n := ⟨_, rfl⟩; rw [← hB] at hn1; have HB := Lib.hid hB; have hbl : B.length = bs.length + 4 := (by rw [hB, List.length_append, be_length]); have hbb : B.length ≤ 4398046511200 := (by omega); clear hB hbl; obtain ⟨F1, ⟨ao, cap, h1, h2, h3, hF1⟩, hc1, hg1⟩ := hn1; have z0 := heap_cell h1 0; have z1 := heap_frozen h1 0; simp at z0; have hy1 := hc1.bts HY.out HD.out; have H1 := Lib.hid (And.intro h1 (And.intro h2 (And.intro h3 (And.intro hF1 (And.intro hc1 (And.intro hg1 (show Bts w1 bo ys from hy1))))))); clear h1 h2 h3 hF1 hc1 hg1 hy1)
    | (at_builtin; refine wpList_append' rfl (.tmp 15) (.tmp 16) el_u8 rfl rfl rfl H1.out.2.1 (by rw [List.length_map, HL.out, Nat.mul_one]) H1.out.2.2.2.2.2.2 (one_cb ys) (by unfold maxLen; omega) (by omega) ?_; intro so sc w4 hx hch _ hx2; have hp4 := hch.heap H1.out.1 (by rintro ⟨a, e1, e2⟩; exact H1.out.2.2.1 a e1 e2); have y0 := heap_cell hp4 0; have y1 := heap_frozen hp4 0; simp at y0; have HX := Lib.hid (And.intro hx (And.intro hch hx2)); clear hx hch hx2 hp4))
  go_end0
  refine ⟨rfl, WrNow.trans (w1 := w1) (b1 := B) H.out.lt ⟨F1, ⟨ao, cap, H1.out.1, H1.out.2.1, H1.out.2.2.1, H1.out.2.2.2.1⟩, H1.out.2.2.2.2.1, H1.out.2.2.2.2.2.1⟩ fun F2 h2 hc hg => ?_⟩
  have hF1 := H1.out.2.2.2.1
  rw [← HB.out]
  obtain ⟨ao2, cap2, e1, _, _, rfl⟩ := h2
  have := e1.symm.trans H1.out.1
  simp at this
  obtain ⟨rfl, rfl⟩ := this
  exact wr_app ys HL.out H1.out.1 H1.out.2.2.1 (Below.refl _ _) HX.out.1 HX.out.2.1 HX.out.2.2
theorem done_any (p : Nat) (bs : List UInt8) (F : List Nat) (w : World) (h : WrAt w p bs F) (hb : bs.length ≤ 70368744177664) :
    Calls Tryz.prog 91 #[.pointer (some ⟨p, 0, none⟩)] w fun e w' => ∃ bo cap, e = .returned (.slice bo bs.length cap) ∧ Below w.heap.size w w' ∧ Own w' 1 bo bs.length cap (bs.map cb) ∧ ∀ a, bo = some a → w.heap.size ≤ a.block := by
  obtain ⟨ao, cap, h1, h2, h3, rfl⟩ := h
  have z0 := heap_cell h1 0
  simp at z0
  have H := Lib.hid h2
  clear h1 h2 h3
  go_enter Tryz.func91, Tryz.ntmps91
  go_wp2_with (go_at_call 46; (with_reducible refine (clone_any _ _ _ bs _ rfl (by omega) H.out.bts).mono ?_); rintro e w1 ⟨bo, xc, rfl, hb, ho, hx⟩; have HB := Lib.hid hb; have HO := Lib.hid ho; have HX := Lib.hid hx; clear hb ho hx)
  go_ret
  exact ⟨bo, xc, rfl, HB.out, HO.out, HX.out⟩
theorem bytesRow_bts (w : World) (s : ByteArray) (cap : Nat) (e : TypeId) (fz : Nat × Nat) : Bts (w.alloc (.cells (bytesRow s cap) e fz)) (some ⟨w.heap.size, 0, none⟩) s.data.toList := by
  have h := (Row.alloc w (bytesRow s cap) e fz).take s.size
  have e1 : (bytesRow s cap).toList.take s.size = s.data.toList.map cb := by
    unfold bytesRow
    rw [Array.toList_append, List.take_append_of_le_length (by rw [Array.length_toList, Array.size_map]; exact Nat.le_refl _), List.take_of_length_le (by rw [Array.length_toList, Array.size_map]; exact Nat.le_refl _)]
    simp [cb]
  rw [e1] at h
  exact h
end Go.Proofs.YtackmgmaippajaaGreat
-- part PackR
namespace Go.Proofs.YtackmgmaippajaaGreat
set_option maxRecDepth 100000
open Go Go.RowKit

/-- A reader at block p; bs is left in it. What it reads lies in the block D. -/
def RdrAt (w : World) (p : Nat) (D : Option Nat) (bs : List UInt8) : Prop :=
  ∃ ao cap, w.heap[p]? = some (.cells #[.slice ao bs.length cap] 182 (0, 0)) ∧ Bts w ao bs ∧ bs.length ≤ cap ∧ cap ≤ maxLen ∧ (bs ≠ [] → ∀ a, ao = some a → D = some a.block ∧ a.block ≠ p)
theorem RdrAt.keep {w w' : World} {p : Nat} {D : Option Nat} {bs : List UInt8} (h : RdrAt w p D bs) {S : Nat → Prop} (hc : Chg S w w') (hp : ¬ S p) (hD : ∀ k, D = some k → ¬ S k) : RdrAt w' p D bs := by
  obtain ⟨ao, cap, h1, h2, h3, h4, h5⟩ := h
  refine ⟨ao, cap, hc.heap h1 hp, ?_, h3, h4, h5⟩
  by_cases hn : bs = []
  · rw [hn]; exact Bts.nil _ _
  · exact hc.row h2 (fun a ha => hD _ (h5 hn a ha).1)
theorem RdrAt.keep' {w w' : World} {p : Nat} {D : Option Nat} {bs : List UInt8} (h : RdrAt w p D bs) (hb : Below w.heap.size w w') : RdrAt w' p D bs := by
  obtain ⟨ao, cap, h1, h2, h3, h4, h5⟩ := h
  exact ⟨ao, cap, (Chg.of_below hb (fun _ => False)).heap h1 (fun h => h), h2.below hb, h3, h4, h5⟩
/-- What is thrown: an error's number. -/
def thrown (code : Int) : List PanicEntry := [{ v := .iface 189 (.agg #[.int .i64 code]), recovered := false }]
theorem take_short (p : Nat) (D : Option Nat) (bs : List UInt8) (n : Nat) (w : World) (h : RdrAt w p D bs) (hn : bs.length < n) (_h64 : n < 18446744073709551616) (hb : bs.length ≤ 140737488351232) :
    Calls Tryz.prog 103 #[.pointer (some ⟨p, 0, none⟩), .int .u64 (n : Int)] w fun e w' => e = .panicked (thrown 4) ∧ w = w' := by
  obtain ⟨ao, cap, h1, h2, h3, h4, h5⟩ := h
  have z0 := heap_cell h1 0
  simp at z0
  clear h1 h2 h5
  go_enter Tryz.func103, Tryz.ntmps103
  go_wp2
  exact ⟨rfl, rfl, rfl⟩
theorem take_any (p : Nat) (D : Option Nat) (bs : List UInt8) (n : Nat) (w : World) (h : RdrAt w p D bs) (hn : n ≤ bs.length) (hb : bs.length ≤ 140737488351232) :
    Calls Tryz.prog 103 #[.pointer (some ⟨p, 0, none⟩), .int .u64 (n : Int)] w fun e w' => ∃ ao cap, e = .returned (.slice ao n cap) ∧ Bts w' ao (bs.take n) ∧ n ≤ cap ∧ cap ≤ maxLen ∧ RdrAt w' p D (bs.drop n) ∧ Chg (· = p) w w' := by
  obtain ⟨ao, cap, h1, h2, h3, h4, h5⟩ := h
  have z0 := heap_cell h1 0
  have z1 := heap_frozen h1 0
  simp at z0
  have H := Lib.hid (And.intro h1 (And.intro h2 (And.intro h3 (And.intro h4 h5))))
  clear h1 h2 h5
  unfold maxLen at h4
  have hbt : ∀ u : Value, Bts (w.setCell ⟨p, 0, none⟩ u) ao bs := by
    intro u
    by_cases hz : bs = []
    · rw [hz]; exact Bts.nil _ _
    · exact (Chg.one _ _ _ _).row H.out.2.1 (fun a ha => (H.out.2.2.2.2 hz a ha).2)
  have HB := Lib.hid hbt
  clear hbt
  by_cases hc : cap = n
  · subst hc
    have hbl : bs.length = cap := by omega
    have HBL := Lib.hid hbl
    go_enter Tryz.func103, Tryz.ntmps103
    go_wp2
    go_ret
    refine ⟨ao, cap, rfl, (HB.out _).take cap, Nat.le_refl _, H.out.2.2.2.1, ⟨ao, 0, ?_, ?_, by rw [List.length_drop]; omega, by simp, fun hx => ?_⟩, Chg.one _ _ _ _⟩
    · rw [heap_set H.out.1]; simp; omega
    · rw [List.drop_of_length_le (by omega)]; exact Bts.nil _ _
    · exact absurd (List.drop_of_length_le (by omega)) hx
  · go_enter Tryz.func103, Tryz.ntmps103
    go_wp2
    go_ret
    refine ⟨ao, cap, rfl, (HB.out _).take n, by omega, H.out.2.2.2.1, ⟨ao.map (fun x => x.add n), cap - n, ?_, ?_, by rw [List.length_drop]; omega, by unfold maxLen; omega, ?_⟩, Chg.one _ _ _ _⟩
    · rw [heap_set H.out.1]; simp
    · exact (HB.out _).drop' n
    · intro hx a ha
      have hz : bs ≠ [] := by rintro rfl; simp at hx
      cases ao with
      | none => cases ha
      | some a0 => cases ha; rw [block_add]; exact H.out.2.2.2.2 hz a0 rfl
/-- Bytes as a number, the first the greatest. -/
def ube (bs : List UInt8) : Nat := bs.foldl (fun n c => n * 256 + c.toNat) 0
theorem ube_snoc (bs : List UInt8) (c : UInt8) : ube (bs ++ [c]) = ube bs * 256 + c.toNat := by simp [ube]
theorem ube_lt (bs : List UInt8) : ube bs < 256 ^ bs.length := by
  suffices ∀ (bs : List UInt8) (n : Nat), bs.foldl (fun n c => n * 256 + c.toNat) n < (n + 1) * 256 ^ bs.length by
    have := this bs 0
    simpa [ube] using this
  intro bs
  induction bs with
  | nil => intro n; simp
  | cons c cs ih =>
    intro n
    have h := ih (n * 256 + c.toNat)
    have hc := c.toNat_lt
    simp only [List.foldl_cons, List.length_cons]
    refine Nat.lt_of_lt_of_le h ?_
    rw [Nat.pow_succ, Nat.mul_comm (256 ^ cs.length) 256, ← Nat.mul_assoc]
    exact Nat.mul_le_mul_right _ (by omega)
theorem acc64 (n : Nat) (c : UInt8) (h : n < 72057594037927936) : bits .or .u64 ((n : Int) * 256) (IntKind.u64.wrap (c.toNat : Int)) = ((n * 256 + c.toNat : Nat) : Int) := by
  have hc := c.toNat_lt
  have e0 : (n : Int) * 256 = ((n * 256 : Nat) : Int) := by omega
  have ew : IntKind.u64.wrap (c.toNat : Int) = (c.toNat : Int) := by rw [IntKind.wrap_u64]; omega
  rw [e0, ew]
  have e1 : ((n * 256 : Nat) : Int) = (((BitVec.ofNat 64 (n * 256)).toNat : Nat) : Int) := by rw [BitVec.toNat_ofNat, Nat.mod_eq_of_lt (by omega)]
  have e2 : (c.toNat : Int) = (((BitVec.ofNat 64 c.toNat).toNat : Nat) : Int) := by rw [BitVec.toNat_ofNat, Nat.mod_eq_of_lt (by omega)]
  rw [e1, e2]
  show IntKind.u64.wrap (((BitVec.ofInt 64 ((BitVec.ofNat 64 (n * 256)).toNat : Int)) ||| (BitVec.ofInt 64 ((BitVec.ofNat 64 c.toNat).toNat : Int))).toNat : Int) = _
  rw [ofInt_toNat, ofInt_toNat, IntKind.wrap_u64, BitVec.toNat_or, BitVec.toNat_ofNat, BitVec.toNat_ofNat, Nat.mod_eq_of_lt (by omega), Nat.mod_eq_of_lt (by omega)]
  have e3 : n * 256 ||| c.toNat = n * 256 + c.toNat := by
    apply Nat.eq_of_testBit_eq
    intro i
    rw [show n * 256 = 2 ^ 8 * n by omega, Nat.testBit_or, Nat.testBit_two_pow_mul_add n (show c.toNat < 2 ^ 8 by omega), Nat.testBit_two_pow_mul]
    by_cases hi : i < 8
    · have : ¬ 8 ≤ i := by omega
      simp [hi, this]
    · have h2 : 8 ≤ i := by omega
      have h3 : c.toNat.testBit i = false := Nat.testBit_lt_two_pow (Nat.lt_of_lt_of_le (show c.toNat < 2 ^ 8 by omega) (Nat.pow_le_pow_right (by decide) h2))
      simp [hi, h2, h3]
  rw [e3]; omega
theorem rnum_short (p : Nat) (D : Option Nat) (bs : List UInt8) (n : Nat) (N : Int) (hN : N = (n : Int)) (w : World) (h : RdrAt w p D bs) (hn : bs.length < n) (h64 : n < 18446744073709551616) (hb : bs.length ≤ 140737488351232) :
    Calls Tryz.prog 107 #[.pointer (some ⟨p, 0, none⟩), .int .u64 N] w fun e w' => e = .panicked (thrown 4) ∧ w = w' := by
  subst hN
  have H := Lib.hid h
  clear h
  go_enter Tryz.func107, Tryz.ntmps107
  go_wp2_with (go_at_call 103; (with_reducible refine (take_short p D bs n _ H.out hn h64 hb).mono ?_); rintro e w1 ⟨rfl, rfl⟩)
  exact ⟨rfl, rfl, rfl⟩
theorem rnum_any (p : Nat) (D : Option Nat) (bs : List UInt8) (n : Nat) (N : Int) (hN : N = (n : Int)) (w : World) (h : RdrAt w p D bs) (hn : n ≤ bs.length) (h8 : n ≤ 8) (hb : bs.length ≤ 140737488351232) :
    Calls Tryz.prog 107 #[.pointer (some ⟨p, 0, none⟩), .int .u64 N] w fun e w' => e = .returned (.int .u64 (ube (bs.take n) : Int)) ∧ RdrAt w' p D (bs.drop n) ∧ Chg (· = p) w w' := by
  subst hN
  have H := Lib.hid h
  clear h
  have hlen : (bs.take n).length = n := by rw [List.length_take]; omega
  go_enter Tryz.func107, Tryz.ntmps107
  go_wp2_with (go_at_call 103; (with_reducible refine (take_any p D bs n _ H.out hn hb).mono ?_); rintro e w1 ⟨ao, cap, rfl, hbt, hc, hm, hr, hg⟩; have HB := Lib.hid hbt; have HR := Lib.hid (And.intro hr hg); clear hbt hm hr hg)
  generalize hxs : bs.take n = xs at *
  have HXS := Lib.hid hxs
  clear hxs
  go_loopg [5, 12] n (fun g x i wr => wr = w1 ∧ ∃ k : Nat, g + k = n ∧ x = .int .u64 (ube (xs.take k) : Int) ∧ i = .int .i64 k)
  case atStart => exact ⟨rfl, 0, by omega, rfl, rfl⟩
  case round =>
    obtain ⟨rfl, k, hk, rfl, rfl⟩ := hrel
    by_cases hlt : k < n
    · obtain ⟨b, off, rfl, hcell⟩ := HB.out.at (by omega)
      have hkx : k < xs.length := by omega
      have h1 := hcell k hkx
      have HT := Lib.hid (show ube (xs.take (k + 1)) = ube (xs.take k) * 256 + xs[k].toNat by rw [List.take_succ_eq_append_getElem hkx, ube_snoc])
      have hu := ube_lt (xs.take k)
      rw [List.length_take, Nat.min_eq_left (by omega)] at hu
      have hu2 : ube (xs.take k) < 72057594037927936 := Nat.lt_of_lt_of_le hu (Nat.pow_le_pow_right (n := 256) (i := k) (j := 7) (by decide) (by omega))
      clear hu
      generalize ube (xs.take k) = X at *
      generalize xs[k] = y at *
      clear hcell HB
      go_wp2
      go_roundg (gk - 1)
      case measure => omega
      case rel =>
        refine ⟨rfl, k + 1, by omega, ?_, by go_num⟩
        rw [acc64 X y hu2, HT.out]
    · go_wp2
      go_ret
      refine ⟨?_, HR.out⟩
      rw [List.take_of_length_le (by omega), HXS.out]
      rfl

theorem ru8_short (p : Nat) (D : Option Nat) (bs : List UInt8) (w : World) (h : RdrAt w p D bs) (hn : bs.length < 1) :
    Calls Tryz.prog 70 #[.pointer (some ⟨p, 0, none⟩)] w fun e w' => e = .panicked (thrown 4) ∧ w = w' := by
  have H := Lib.hid h
  clear h
  go_enter Tryz.func70, Tryz.ntmps70
  go_wp2_with (go_at_call 107; (with_reducible refine (rnum_short p D bs 1 1 rfl _ H.out hn (by omega) (by omega)).mono ?_); rintro e w1 ⟨rfl, rfl⟩)
  exact ⟨rfl, rfl, rfl⟩
theorem ru8_any (p : Nat) (D : Option Nat) (bs : List UInt8) (w : World) (h : RdrAt w p D bs) (hn : 1 ≤ bs.length) (hb : bs.length ≤ 140737488351232) :
    Calls Tryz.prog 70 #[.pointer (some ⟨p, 0, none⟩)] w fun e w' => e = .returned (.int .u8 (ube (bs.take 1) : Int)) ∧ RdrAt w' p D (bs.drop 1) ∧ Chg (· = p) w w' := by
  have H := Lib.hid h
  clear h
  have hu := ube_lt (bs.take 1)
  rw [List.length_take, Nat.min_eq_left hn] at hu
  go_enter Tryz.func70, Tryz.ntmps70
  go_wp2_with (go_at_call 107; (with_reducible refine (rnum_any p D bs 1 1 rfl _ H.out hn (by omega) hb).mono ?_); rintro e w1 ⟨rfl, hr, hg⟩; have HR := Lib.hid (And.intro hr hg); clear hr hg)
  go_ret
  exact ⟨by first | rfl | (congr 2; rw [IntKind.wrap_u8]; omega), HR.out⟩
theorem ru16_short (p : Nat) (D : Option Nat) (bs : List UInt8) (w : World) (h : RdrAt w p D bs) (hn : bs.length < 2) :
    Calls Tryz.prog 108 #[.pointer (some ⟨p, 0, none⟩)] w fun e w' => e = .panicked (thrown 4) ∧ w = w' := by
  have H := Lib.hid h
  clear h
  go_enter Tryz.func108, Tryz.ntmps108
  go_wp2_with (go_at_call 107; (with_reducible refine (rnum_short p D bs 2 2 rfl _ H.out hn (by omega) (by omega)).mono ?_); rintro e w1 ⟨rfl, rfl⟩)
  exact ⟨rfl, rfl, rfl⟩
theorem ru16_any (p : Nat) (D : Option Nat) (bs : List UInt8) (w : World) (h : RdrAt w p D bs) (hn : 2 ≤ bs.length) (hb : bs.length ≤ 140737488351232) :
    Calls Tryz.prog 108 #[.pointer (some ⟨p, 0, none⟩)] w fun e w' => e = .returned (.int .u16 (ube (bs.take 2) : Int)) ∧ RdrAt w' p D (bs.drop 2) ∧ Chg (· = p) w w' := by
  have H := Lib.hid h
  clear h
  have hu := ube_lt (bs.take 2)
  rw [List.length_take, Nat.min_eq_left hn] at hu
  go_enter Tryz.func108, Tryz.ntmps108
  go_wp2_with (go_at_call 107; (with_reducible refine (rnum_any p D bs 2 2 rfl _ H.out hn (by omega) hb).mono ?_); rintro e w1 ⟨rfl, hr, hg⟩; have HR := Lib.hid (And.intro hr hg); clear hr hg)
  go_ret
  exact ⟨by first | rfl | (congr 2; rw [IntKind.wrap_u16]; omega), HR.out⟩
theorem ru32_short (p : Nat) (D : Option Nat) (bs : List UInt8) (w : World) (h : RdrAt w p D bs) (hn : bs.length < 4) :
    Calls Tryz.prog 102 #[.pointer (some ⟨p, 0, none⟩)] w fun e w' => e = .panicked (thrown 4) ∧ w = w' := by
  have H := Lib.hid h
  clear h
  go_enter Tryz.func102, Tryz.ntmps102
  go_wp2_with (go_at_call 107; (with_reducible refine (rnum_short p D bs 4 4 rfl _ H.out hn (by omega) (by omega)).mono ?_); rintro e w1 ⟨rfl, rfl⟩)
  exact ⟨rfl, rfl, rfl⟩
theorem ru32_any (p : Nat) (D : Option Nat) (bs : List UInt8) (w : World) (h : RdrAt w p D bs) (hn : 4 ≤ bs.length) (hb : bs.length ≤ 140737488351232) :
    Calls Tryz.prog 102 #[.pointer (some ⟨p, 0, none⟩)] w fun e w' => e = .returned (.int .u32 (ube (bs.take 4) : Int)) ∧ RdrAt w' p D (bs.drop 4) ∧ Chg (· = p) w w' := by
  have H := Lib.hid h
  clear h
  have hu := ube_lt (bs.take 4)
  rw [List.length_take, Nat.min_eq_left hn] at hu
  go_enter Tryz.func102, Tryz.ntmps102
  go_wp2_with (go_at_call 107; (with_reducible refine (rnum_any p D bs 4 4 rfl _ H.out hn (by omega) hb).mono ?_); rintro e w1 ⟨rfl, hr, hg⟩; have HR := Lib.hid (And.intro hr hg); clear hr hg)
  go_ret
  exact ⟨by first | rfl | (congr 2; rw [IntKind.wrap_u32]; omega), HR.out⟩
theorem ru64_short (p : Nat) (D : Option Nat) (bs : List UInt8) (w : World) (h : RdrAt w p D bs) (hn : bs.length < 8) :
    Calls Tryz.prog 73 #[.pointer (some ⟨p, 0, none⟩)] w fun e w' => e = .panicked (thrown 4) ∧ w = w' := by
  have H := Lib.hid h
  clear h
  go_enter Tryz.func73, Tryz.ntmps73
  go_wp2_with (go_at_call 107; (with_reducible refine (rnum_short p D bs 8 8 rfl _ H.out hn (by omega) (by omega)).mono ?_); rintro e w1 ⟨rfl, rfl⟩)
  exact ⟨rfl, rfl, rfl⟩
theorem ru64_any (p : Nat) (D : Option Nat) (bs : List UInt8) (w : World) (h : RdrAt w p D bs) (hn : 8 ≤ bs.length) (hb : bs.length ≤ 140737488351232) :
    Calls Tryz.prog 73 #[.pointer (some ⟨p, 0, none⟩)] w fun e w' => e = .returned (.int .u64 (ube (bs.take 8) : Int)) ∧ RdrAt w' p D (bs.drop 8) ∧ Chg (· = p) w w' := by
  have H := Lib.hid h
  clear h
  have hu := ube_lt (bs.take 8)
  rw [List.length_take, Nat.min_eq_left hn] at hu
  go_enter Tryz.func73, Tryz.ntmps73
  go_wp2_with (go_at_call 107; (with_reducible refine (rnum_any p D bs 8 8 rfl _ H.out hn (by omega) hb).mono ?_); rintro e w1 ⟨rfl, hr, hg⟩; have HR := Lib.hid (And.intro hr hg); clear hr hg)
  go_ret
  exact ⟨by first | rfl | (congr 2; rw [IntKind.wrap_u64]; omega), HR.out⟩
theorem rbytes_any (p : Nat) (D : Option Nat) (bs : List UInt8) (w : World) (h : RdrAt w p D bs) (h4 : 4 ≤ bs.length) (hn : 4 + ube (bs.take 4) ≤ bs.length) (hb : bs.length ≤ 140737488351232) :
    Calls Tryz.prog 72 #[.pointer (some ⟨p, 0, none⟩)] w fun e w' => ∃ bo cap, e = .returned (.slice bo (ube (bs.take 4)) cap) ∧ Own w' 1 bo (ube (bs.take 4)) cap (((bs.drop 4).take (ube (bs.take 4))).map cb) ∧ (∀ a, bo = some a → w.heap.size ≤ a.block) ∧ RdrAt w' p D (bs.drop (4 + ube (bs.take 4))) ∧ Chg (· = p) w w' := by
  have H := Lib.hid h
  clear h
  have hn2 : ube (bs.take 4) ≤ (bs.drop 4).length := by rw [List.length_drop]; omega
  have hb2 : (bs.drop 4).length ≤ 140737488351232 := by rw [List.length_drop]; omega
  have HE := Lib.hid (show (bs.drop 4).drop (ube (bs.take 4)) = bs.drop (4 + ube (bs.take 4)) by rw [List.drop_drop])
  have HL := Lib.hid (show ((bs.drop 4).take (ube (bs.take 4))).length = ube (bs.take 4) by rw [List.length_take, Nat.min_eq_left hn2])
  generalize hq : ube (bs.take 4) = n at *
  have HQ := Lib.hid hq
  clear hq
  go_enter Tryz.func72, Tryz.ntmps72
  go_wp2_with (first
    | (go_at_call 107; (with_reducible refine (rnum_any p D bs 4 4 rfl _ H.out h4 (by omega) hb).mono ?_); rintro e w1 ⟨rfl, hr, hg⟩; have HR := Lib.hid (And.intro hr hg); clear hr hg; rw [HQ.out])
    | (go_at_call 103; (with_reducible refine (take_any p D (bs.drop 4) n _ HR.out.1 hn2 hb2).mono ?_); rintro e w2 ⟨ao, c2, rfl, hbt, hc2, hm2, hr2, hg2⟩; have HT := Lib.hid hbt; have HS := Lib.hid (And.intro hr2 hg2); clear hbt hm2 hr2 hg2)
    | (go_at_call 46; (with_reducible refine (clone_any _ n _ _ _ HL.out (by omega) HT.out).mono ?_); rintro e w3 ⟨bo, xc, rfl, hb3, ho3, hx3⟩; have HO := Lib.hid (And.intro hb3 (And.intro ho3 hx3)); clear hb3 ho3 hx3))
  go_ret
  obtain ⟨hb3, ho3, hx3⟩ := HO.out
  obtain ⟨hr2, hg2⟩ := HS.out
  obtain ⟨hr1, hg1⟩ := HR.out
  have hg12 : Chg (· = p) w w2 := hg1.trans hg2 (fun _ _ h => h)
  refine ⟨bo, xc, rfl, ho3, fun a ha => Nat.le_trans hg12.size (hx3 a ha), ?_, hg12.trans (Chg.of_below hb3 (· = p)) (fun _ _ h => h)⟩
  rw [← HE.out]
  exact hr2.keep' hb3
theorem rbytes_short (p : Nat) (D : Option Nat) (bs : List UInt8) (w : World) (h : RdrAt w p D bs) (hn : bs.length < 4 ∨ bs.length < 4 + ube (bs.take 4)) (hb : bs.length ≤ 140737488351232) :
    Calls Tryz.prog 72 #[.pointer (some ⟨p, 0, none⟩)] w fun e w' => e = .panicked (thrown 4) ∧ Chg (· = p) w w' := by
  have H := Lib.hid h
  clear h
  by_cases h4 : bs.length < 4
  · go_enter Tryz.func72, Tryz.ntmps72
    go_wp2_with (go_at_call 107; (with_reducible refine (rnum_short p D bs 4 4 rfl _ H.out h4 (by omega) hb).mono ?_); rintro e w1 ⟨rfl, rfl⟩)
    exact ⟨rfl, rfl, Chg.refl _ _⟩
  · have h4' : 4 ≤ bs.length := by omega
    have hn' : bs.length < 4 + ube (bs.take 4) := by omega
    have hn2 : (bs.drop 4).length < ube (bs.take 4) := by rw [List.length_drop]; omega
    have hb2 : (bs.drop 4).length ≤ 140737488351232 := by rw [List.length_drop]; omega
    have hu := ube_lt (bs.take 4)
    rw [List.length_take, Nat.min_eq_left h4'] at hu
    clear hn hn'
    generalize hq : ube (bs.take 4) = n at *
    have HQ := Lib.hid hq
    clear hq
    have h64 : n < 18446744073709551616 := by omega
    go_enter Tryz.func72, Tryz.ntmps72
    go_wp2_with (first
      | (go_at_call 107; (with_reducible refine (rnum_any p D bs 4 4 rfl _ H.out h4' (by omega) hb).mono ?_); rintro e w1 ⟨rfl, hr, hg⟩; have HR := Lib.hid (And.intro hr hg); clear hr hg; rw [HQ.out])
      | (go_at_call 103; (with_reducible refine (take_short p D (bs.drop 4) n _ HR.out.1 hn2 h64 hb2).mono ?_); rintro e w2 ⟨rfl, rfl⟩))
    exact ⟨rfl, rfl, HR.out.2⟩
/-! What catches: the deferred function of a read. -/
theorem not_nil (W : World) (u : TypeId) (v : Value) : (binOp .eql 20 (.iface u v) .nilIface).run Tryz.prog W = .ok (.bool false) W := by kernel_rfl
theorem as_thrown (W : World) (v : Value) : (Instr.typeAssert (.iface 189 v) 20 189 true).run Tryz.prog W = .ok (.tuple #[v, .bool true]) W := by kernel_rfl
theorem as_int (W : World) (v : Value) : (Instr.typeAssert (.iface 3 v) 20 189 true).run Tryz.prog W = .ok (.tuple #[.agg #[.int .i64 0], .bool false]) W := by kernel_rfl
theorem catch_thrown (p : Nat) (code : Int) (old : Value) (older : List PanicEntry) (w : World) (hc : w.cell? ⟨p, 0, none⟩ = some old) (hz : w.frozen? ⟨p, 0, none⟩ = false) (hp : p < w.heap.size) :
    CallsD Tryz.prog 106 #[.pointer (some ⟨p, 0, none⟩)] (.panicking ({ v := .iface 189 (.agg #[.int .i64 code]), recovered := false } :: older)) w fun e u' w' =>
      e = .returned (.tuple #[]) ∧ u' = .panicking ({ v := .iface 189 (.agg #[.int .i64 code]), recovered := true } :: older) ∧ Chg (· = p) w w' ∧ w'.cell? ⟨p, 0, none⟩ = some (.int .i64 code) := by
  have ht := as_thrown
  have hn := not_nil
  refine callsD_of_wpS Tryz.func106 rfl fun c₀ cs hu => ?_
  apply wpS_seq
  apply wpS_region
  simp [wpOpsS, go_sem, recoverD, hu, Tryz.ntmps106, Exit.thenS]
  refine wpS_of_wp ?_
  rw [show #[Value.pointer (some ⟨p, 0, none⟩)] ++ (Array.replicate 11 undef).setIfInBounds 3 (Value.iface 189 (.agg #[.int .i64 code])) = #[Value.pointer (some ⟨p, 0, none⟩), undef, undef, undef, Value.iface 189 (.agg #[.int .i64 code]), undef, undef, undef, undef, undef, undef, undef] from rfl]
  go_wp2
  simp [bodyPostS, results, Tryz.results106, go_sem]
  exact ⟨(Chg.one _ _ _ _).alloc _, ((Chg.refl (fun _ => False) _).alloc _).cell (by simp [go_sem, hc]) (fun h => h)⟩
theorem catch_int (p : Nat) (n : Value) (older : List PanicEntry) (w : World) :
    CallsD Tryz.prog 106 #[.pointer (some ⟨p, 0, none⟩)] (.panicking ({ v := .iface 3 n, recovered := false } :: older)) w fun e u' w' =>
      e = .panicked [{ v := .iface 3 n, recovered := false }] ∧ u' = .panicking ({ v := .iface 3 n, recovered := true } :: older) ∧ w' = w := by
  have ht := as_int
  have hn := not_nil
  refine callsD_of_wpS Tryz.func106 rfl fun c₀ cs hu => ?_
  apply wpS_seq
  apply wpS_region
  simp [wpOpsS, go_sem, recoverD, hu, Tryz.ntmps106, Exit.thenS]
  refine wpS_of_wp ?_
  rw [show #[Value.pointer (some ⟨p, 0, none⟩)] ++ (Array.replicate 11 undef).setIfInBounds 3 (Value.iface 3 n) = #[Value.pointer (some ⟨p, 0, none⟩), undef, undef, undef, Value.iface 3 n, undef, undef, undef, undef, undef, undef, undef] from rfl]
  go_wp2
  simp [bodyPostS]
theorem catch_idle (p : Nat) (w : World) :
    CallsD Tryz.prog 106 #[.pointer (some ⟨p, 0, none⟩)] .returning w fun e u' w' =>
      e = .returned (.tuple #[]) ∧ u' = .returning ∧ w' = w := by
  refine callsD_of_wpS Tryz.func106 rfl fun c₀ cs hu => ?_
  apply wpS_seq
  apply wpS_region
  simp [wpOpsS, go_sem, recoverD, hu, Tryz.ntmps106, Exit.thenS]
  refine wpS_of_wp ?_
  go_wp2
  cases c₀
  simp_all [bodyPostS, results, Tryz.results106]
theorem bts_lt {w : World} {ao : Option Addr} {bs : List UInt8} (h : Bts w ao bs) (hz : bs ≠ []) : ∀ a, ao = some a → a.block < w.heap.size := by
  have hl : 0 < bs.length := by cases bs with
    | nil => exact absurd rfl hz
    | cons => simp
  obtain ⟨b, off, rfl, hc⟩ := h.at hl
  have h0 := hc 0 hl
  rintro a ⟨⟩
  cases hb : w.heap[b]? with
  | none => simp [World.cell?, hb] at h0
  | some o => exact heap_lt hb
/-- Where a read stands ahead of its closure: its result's cell, and the reader. -/
abbrev readWorld (w : World) (v : Value) : World := (w.alloc (.cells #[.int .i64 0] 51)).alloc (.cells #[v] 182)
theorem readWorld_below (w : World) (v : Value) : Below w.heap.size w (readWorld w v) := ((Below.refl _ w).alloc (Nat.le_refl _) _).alloc (by rw [size_alloc]; omega) _
theorem readWorld_cell (w : World) (v : Value) : (readWorld w v).heap[w.heap.size]? = some (.cells #[.int .i64 0] 51 (0, 0)) := heap_new (heap_top _ _)
theorem readWorld_size (w : World) (v : Value) : (readWorld w v).heap.size = w.heap.size + 2 := by rw [size_alloc, size_alloc]
theorem readWorld_rdr (w : World) {ao : Option Addr} {n c : Nat} {bs : List UInt8} (hb : Bts w ao bs) (hl : bs.length = n) (hnc : n ≤ c) (hm : c ≤ maxLen) : RdrAt (readWorld w (.slice ao n c)) (w.heap.size + 1) (ao.map (·.block)) bs := by
  refine ⟨ao, c, ?_, hb.below (readWorld_below w _), by omega, hm, ?_⟩
  · have := heap_top (w.alloc (.cells #[.int .i64 0] 51)) (.cells #[.slice ao n c] 182)
    rw [size_alloc] at this
    rw [hl]
    exact this
  · intro hz a ha
    subst ha
    exact ⟨rfl, by have := bts_lt hb hz a rfl; omega⟩
/-- What a read's closure has to be. -/
structure ReadBy (f : Nat) (caps : Array Value) (w : World) (D : Option Nat) (bs : List UInt8) (S : Nat → Prop) (G : World → Prop) (en : Ending → World → Prop) : Prop where
  fn : ∀ args w, (callFunc f args).run Tryz.prog w = .ok (.enter f args) w
  old : ∀ k, S k → k < w.heap.size
  by' : ∀ w1, Below w.heap.size w w1 → RdrAt w1 (w.heap.size + 1) D bs → Calls Tryz.prog f (#[.pointer (some ⟨w.heap.size + 1, 0, none⟩)] ++ caps) w1 fun e w2 => en e w2 ∧ Chg (fun k => S k ∨ k = w.heap.size + 1) w1 w2 ∧ G w2
  keep : ∀ w2 w3, Chg (· = w.heap.size) w2 w3 → w.heap.size < w2.heap.size → G w2 → G w3
/-- A read whose closure throws: it hands back what was thrown. -/
theorem read_thrown {f : Nat} {caps : Array Value} {code : Int} {S : Nat → Prop} {G : World → Prop} {ao : Option Addr} {n c : Nat} {bs : List UInt8} {w : World} (hb : Bts w ao bs) (hl : bs.length = n) (hnc : n ≤ c) (hm : c ≤ maxLen)
    (h : ReadBy f caps w (ao.map (·.block)) bs S G fun e _ => e = .panicked (thrown code)) :
    Calls Tryz.prog 68 #[.slice ao n c, .func (.func f) #[] caps] w fun e w' => e = .returned (.int .i64 code) ∧ Chg S w w' ∧ G w' := by
  have hmf : ∀ (fn : Fn) (first cap : Array Value) (w : World), (Instr.makeFunc fn first cap).run Tryz.prog w = .ok (.func fn first cap) w := fun _ _ _ _ => rfl
  have HR := Lib.hid (readWorld_rdr w hb hl hnc hm)
  have HC := Lib.hid (readWorld_cell w (.slice ao n c))
  have HZ := Lib.hid (readWorld_size w (.slice ao n c))
  have HW := Lib.hid (readWorld_below w (.slice ao n c))
  have hcf := h.fn
  have HH := Lib.hid h
  clear h hb hm
  go_enter_defers Tryz.func68, Tryz.ntmps68
  go_wp2_with ((with_reducible refine (HH.out.by' _ HW.out HR.out).mono ?_); rintro e w1 ⟨rfl, hg, hq⟩; have HG := Lib.hid (And.intro hg hq); clear hg hq)
  have hlt : w.heap.size < (readWorld w (.slice ao n c)).heap.size := by rw [HZ.out]; omega
  have h1 : w1.heap[w.heap.size]? = some (.cells #[.int .i64 0] 51 (0, 0)) := HG.out.1.heap HC.out (by rintro (h | h); exact Nat.lt_irrefl _ (HH.out.old _ h); omega)
  refine leaves_cons (f := 106) (args := #[.pointer (some ⟨w.heap.size, 0, none⟩)]) (by simp) (by simp [go_sem]) ?_
  refine (catch_thrown w.heap.size code (.int .i64 0) [] w1 ?_ ?_ (heap_lt h1)).mono ?_
  · rw [heap_cell h1]; rfl
  · exact heap_frozen h1 0
  rintro e u' w2 ⟨rfl, rfl, hg2, hc2⟩
  have hcc : w2.cell? ⟨w.heap.size, 0, none⟩ = some (.int .i64 code) := hc2
  have hrd : Chg S w w2 := by
    refine ((Chg.of_below HW.out S).trans HG.out.1 ?_).trans hg2 ?_
    · rintro i hi (h | h)
      · exact h
      · omega
    · intro i hi h; omega
  have hq2 : G w2 := HH.out.keep _ _ hg2 (heap_lt h1) HG.out.2
  simp [Leaves, settle, results, Tryz.results68, go_sem, hcc]
  exact ⟨hrd, hq2⟩
/-- A read whose closure panics with a number: it goes on. -/
theorem read_panics {f : Nat} {caps : Array Value} {x : Value} {S : Nat → Prop} {G : World → Prop} {ao : Option Addr} {n c : Nat} {bs : List UInt8} {w : World} (hb : Bts w ao bs) (hl : bs.length = n) (hnc : n ≤ c) (hm : c ≤ maxLen)
    (h : ReadBy f caps w (ao.map (·.block)) bs S G fun e _ => e = .panicked [{ v := .iface 3 x, recovered := false }]) :
    Calls Tryz.prog 68 #[.slice ao n c, .func (.func f) #[] caps] w fun e w' => e = .panicked [{ v := .iface 3 x, recovered := false }, { v := .iface 3 x, recovered := true }] ∧ Chg S w w' ∧ G w' := by
  have hmf : ∀ (fn : Fn) (first cap : Array Value) (w : World), (Instr.makeFunc fn first cap).run Tryz.prog w = .ok (.func fn first cap) w := fun _ _ _ _ => rfl
  have HR := Lib.hid (readWorld_rdr w hb hl hnc hm)
  have HC := Lib.hid (readWorld_cell w (.slice ao n c))
  have HZ := Lib.hid (readWorld_size w (.slice ao n c))
  have HW := Lib.hid (readWorld_below w (.slice ao n c))
  have hcf := h.fn
  have HH := Lib.hid h
  clear h hb hm
  go_enter_defers Tryz.func68, Tryz.ntmps68
  go_wp2_with ((with_reducible refine (HH.out.by' _ HW.out HR.out).mono ?_); rintro e w1 ⟨rfl, hg, hq⟩; have HG := Lib.hid (And.intro hg hq); clear hg hq)
  have hlt : w.heap.size < (readWorld w (.slice ao n c)).heap.size := by rw [HZ.out]; omega
  refine leaves_cons (f := 106) (args := #[.pointer (some ⟨w.heap.size, 0, none⟩)]) (by simp) (by simp [go_sem]) ?_
  refine (catch_int w.heap.size x [] w1).mono ?_
  rintro e u' w2 ⟨rfl, rfl, rfl⟩
  have hrd : Chg S w w2 := by
    refine (Chg.of_below HW.out S).trans HG.out.1 ?_
    rintro i hi (h | h)
    · exact h
    · omega
  simp [Leaves, raised]
  exact ⟨hrd, HG.out.2⟩
/-- A read whose closure comes back, with so much left. -/
theorem read_ret {f : Nat} {caps : Array Value} {bs' : List UInt8} {code : Int} (hcode : code = if bs' = [] then 0 else 5) (hbs : bs'.length ≤ 9223372036854775807) {S : Nat → Prop} {G : World → Prop} {ao : Option Addr} {n c : Nat} {bs : List UInt8} {w : World} (hb : Bts w ao bs) (hl : bs.length = n) (hnc : n ≤ c) (hm : c ≤ maxLen)
    (h : ReadBy f caps w (ao.map (·.block)) bs S G fun e w2 => e = .returned (.tuple #[]) ∧ RdrAt w2 (w.heap.size + 1) (ao.map (·.block)) bs') :
    Calls Tryz.prog 68 #[.slice ao n c, .func (.func f) #[] caps] w fun e w' => e = .returned (.int .i64 code) ∧ Chg S w w' ∧ G w' := by
  have hmf : ∀ (fn : Fn) (first cap : Array Value) (w : World), (Instr.makeFunc fn first cap).run Tryz.prog w = .ok (.func fn first cap) w := fun _ _ _ _ => rfl
  have HR := Lib.hid (readWorld_rdr w hb hl hnc hm)
  have HC := Lib.hid (readWorld_cell w (.slice ao n c))
  have HZ := Lib.hid (readWorld_size w (.slice ao n c))
  have HW := Lib.hid (readWorld_below w (.slice ao n c))
  have hcf := h.fn
  have HH := Lib.hid h
  clear h hb hm
  by_cases hlen : bs'.length = 0
  · have HCO := Lib.hid (show code = 0 by rw [hcode, if_pos (List.length_eq_zero_iff.1 hlen)])
    clear hcode
    go_enter_defers Tryz.func68, Tryz.ntmps68
    go_wp2_with ((with_reducible refine (HH.out.by' _ HW.out HR.out).mono ?_); rintro e w1 ⟨⟨rfl, hr⟩, hg, hq⟩; have HG := Lib.hid (And.intro hr (And.intro hg hq)); have hz := hr; obtain ⟨ro, rc, hz1, -⟩ := hz; have hz2 := heap_cell hz1 0; simp at hz2; have hx1 : w1.heap[w.heap.size]? = some (.cells #[.int .i64 0] 51 (0, 0)) := hg.heap HC.out (by rintro (h | h); exact Nat.lt_irrefl _ (HH.out.old _ h); omega); have hx2 := heap_cell hx1 0; simp at hx2; have hx3 := heap_frozen hx1 0; have HX := Lib.hid hx1; clear hg hq hr hz1 hx1)
    all_goals (
      refine leaves_cons (f := 106) (args := #[.pointer (some ⟨w.heap.size, 0, none⟩)]) (by simp) (by simp [go_sem]) ?_
      refine (catch_idle w.heap.size _).mono ?_
      rintro e u' w2 ⟨rfl, rfl, rfl⟩
      have hrd : Chg S w w1 := by
        refine (Chg.of_below HW.out S).trans HG.out.2.1 ?_
        rintro i hi (h | h)
        · exact h
        · omega
      simp [Leaves, settle, results, Tryz.results68, go_sem, hx2, HCO.out]
      exact ⟨hrd.trans (Chg.one w1 w.heap.size 0 _) (fun i hi h => absurd hi (by omega)), HH.out.keep _ _ (Chg.one w1 w.heap.size 0 _) (heap_lt HX.out) HG.out.2.2⟩)

  · have HCO := Lib.hid (show code = 5 by rw [hcode, if_neg (fun h => hlen (by rw [h]; rfl))])
    clear hcode
    go_enter_defers Tryz.func68, Tryz.ntmps68
    go_wp2_with ((with_reducible refine (HH.out.by' _ HW.out HR.out).mono ?_); rintro e w1 ⟨⟨rfl, hr⟩, hg, hq⟩; have HG := Lib.hid (And.intro hr (And.intro hg hq)); have hz := hr; obtain ⟨ro, rc, hz1, -⟩ := hz; have hz2 := heap_cell hz1 0; simp at hz2; have hx1 : w1.heap[w.heap.size]? = some (.cells #[.int .i64 0] 51 (0, 0)) := hg.heap HC.out (by rintro (h | h); exact Nat.lt_irrefl _ (HH.out.old _ h); omega); have hx2 := heap_cell hx1 0; simp at hx2; have hx3 := heap_frozen hx1 0; have HX := Lib.hid hx1; clear hg hq hr hz1 hx1)
    all_goals (
      refine leaves_cons (f := 106) (args := #[.pointer (some ⟨w.heap.size, 0, none⟩)]) (by simp) (by simp [go_sem]) ?_
      refine (catch_idle w.heap.size _).mono ?_
      rintro e u' w2 ⟨rfl, rfl, rfl⟩
      have hrd : Chg S w w1 := by
        refine (Chg.of_below HW.out S).trans HG.out.2.1 ?_
        rintro i hi (h | h)
        · exact h
        · omega
      simp [Leaves, settle, results, Tryz.results68, go_sem, hx2, HCO.out]
      exact ⟨hrd.trans (Chg.one w1 w.heap.size 0 _) (fun i hi h => absurd hi (by omega)), HH.out.keep _ _ (Chg.one w1 w.heap.size 0 _) (heap_lt HX.out) HG.out.2.2⟩)

end Go.Proofs.YtackmgmaippajaaGreat
-- part PackM
namespace Go.Proofs.YtackmgmaippajaaGreat
set_option maxRecDepth 100000
open Go Go.RowKit

/-- A writer that was made behind w0. -/
def WrMine (w0 w : World) (p : Nat) (bs : List UInt8) : Prop := ∃ F, WrAt w p bs F ∧ (∀ k ∈ F, w0.heap.size ≤ k) ∧ Below w0.heap.size w0 w
theorem WrMine.below {w0 w : World} {p : Nat} {bs : List UInt8} (h : WrMine w0 w p bs) : Below w0.heap.size w0 w := h.choose_spec.2.2
theorem WrMine.keep {w0 w w' : World} {p : Nat} {bs : List UInt8} (h : WrMine w0 w p bs) (hb : Below w.heap.size w w') : WrMine w0 w' p bs := by
  obtain ⟨F, h1, h2, h3⟩ := h
  exact ⟨F, h1.keep (Chg.of_below hb (fun _ => False)) (fun _ _ h => h), h2, h3.trans (hb.mono h3.size)⟩
theorem WrMine.chg {w0 w w' : World} {p : Nat} {bs : List UInt8} (h : WrMine w0 w p bs) (hb : Chg (fun _ => False) w w') : WrMine w0 w' p bs := by
  obtain ⟨F, h1, h2, h3⟩ := h
  exact ⟨F, h1.keep hb (fun _ _ h => h), h2, h3.trans (hb.below h3.size (fun _ h => h.elim))⟩
theorem WrMine.new {w0 w : World} (h : Below w0.heap.size w0 w) : WrMine w0 (w.alloc (.cells #[.slice none 0 0] 161)) w.heap.size [] := by
  refine ⟨[w.heap.size], ⟨none, 0, heap_top _ _, Own.nil' _ _, by simp, rfl⟩, ?_, h.alloc h.size _⟩
  intro k hk
  rw [List.mem_singleton] at hk
  rw [hk]; exact h.size
theorem WrMine.now {w0 w w' : World} {p : Nat} {bs' : List UInt8} {F : List Nat} (h2 : ∀ k ∈ F, w0.heap.size ≤ k) (h3 : Below w0.heap.size w0 w) (hn : WrNow w p F bs' w') : WrMine w0 w' p bs' := by
  obtain ⟨F', h4, h5, h6⟩ := hn
  refine ⟨F', h4, ?_, h3.trans (h5.below h3.size h2)⟩
  intro k hk
  rcases h6 k hk with h | h
  · exact h2 k h
  · exact Nat.le_trans h3.size h
theorem u16_mine {w0 w : World} {p : Nat} {bs : List UInt8} (h : WrMine w0 w p bs) (N : Int) (n : Nat) (hN : N = (n : Int)) (hn : n < 65536) (hb : bs.length ≤ 70368744177664) :
    Calls Tryz.prog 92 #[.pointer (some ⟨p, 0, none⟩), .int .u16 N] w fun e w' => e = .returned (.tuple #[]) ∧ WrMine w0 w' p (bs ++ be 2 n) := by
  subst hN
  obtain ⟨F, h1, h2, h3⟩ := h
  exact (u16_any p bs F n w h1 hn hb).mono fun e w' he => ⟨he.1, WrMine.now h2 h3 he.2⟩
theorem done_mine {w0 w : World} {p : Nat} {bs : List UInt8} (h : WrMine w0 w p bs) (hb : bs.length ≤ 70368744177664) :
    Calls Tryz.prog 91 #[.pointer (some ⟨p, 0, none⟩)] w fun e w' => ∃ bo cap, e = .returned (.slice bo bs.length cap) ∧ WrMine w0 w' p bs ∧ Own w' 1 bo bs.length cap (bs.map cb) ∧ ∀ a, bo = some a → w.heap.size ≤ a.block := by
  have hk := h
  obtain ⟨F, h1, h2, h3⟩ := h
  exact (done_any p bs F w h1 hb).mono fun e w' ⟨bo, cap, he, hb', ho, hx⟩ => ⟨bo, cap, he, hk.keep hb', ho, hx⟩
/-! ### the law's Awake -/
theorem one_bts (w : World) (fz : Nat × Nat) : Bts (w.alloc (.cells #[.int .u8 1] 5 fz)) (some ⟨w.heap.size, 0, none⟩) [1] := Bts.alloc w _ _ _ _ rfl
end Go.Proofs.YtackmgmaippajaaGreat
-- part PackU
namespace Go.Proofs.YtackmgmaippajaaGreat
set_option maxRecDepth 100000
open Go Go.RowKit

/-- Bytes that were appended to what lay at ao0: nothing else has turned. -/
structure SlApp (w0 : World) (ao0 : Option Addr) (w : World) (ao : Option Addr) (n cap : Nat) (bs : List UInt8) : Prop where
  own : Own w 1 ao n cap (bs.map cb)
  chg : Chg (fun k => ∃ a, ao0 = some a ∧ a.block = k) w0 w
  at_ : ∀ a', ao = some a' → ao0 = some a' ∨ w0.heap.size ≤ a'.block
theorem SlApp.more {w0 w w' : World} {ao0 ao ao' : Option Addr} {n n' cap cap' : Nat} {bs bs' : List UInt8} (h : SlApp w0 ao0 w ao n cap bs) (ho : Own w' 1 ao' n' cap' (bs'.map cb)) (hc : Chg (fun k => ∃ a, ao = some a ∧ a.block = k) w w') (hx : ∀ a', ao' = some a' → ao = some a' ∨ w.heap.size ≤ a'.block) : SlApp w0 ao0 w' ao' n' cap' bs' := by
  refine ⟨ho, h.chg.trans hc ?_, ?_⟩
  · rintro i hi ⟨a, ha, rfl⟩
    rcases h.at_ a ha with e | e
    · exact ⟨a, e, rfl⟩
    · omega
  · intro a' ha
    rcases hx a' ha with e | e
    · exact h.at_ a' e
    · exact .inr (Nat.le_trans h.chg.size e)
theorem SlApp.alloc {w0 w : World} {ao0 ao : Option Addr} {n cap : Nat} {bs : List UInt8} (h : SlApp w0 ao0 w ao n cap bs) (o : Obj) : SlApp w0 ao0 (w.alloc o) ao n cap bs :=
  ⟨h.own.keep ((Chg.refl (fun _ => False) _).alloc o) (fun _ _ h => h), h.chg.alloc o, h.at_⟩
/-- Bytes that lie elsewhere are as they were. -/
theorem SlApp.other {w0 w : World} {ao0 ao bo : Option Addr} {n cap : Nat} {bs ys : List UInt8} (h : SlApp w0 ao0 w ao n cap bs) (hy : Bts w0 bo ys) (hd : ys ≠ [] → ∀ a, bo = some a → ∀ b, ao0 = some b → b.block ≠ a.block) : Bts w bo ys := by
  by_cases hz : ys = []
  · rw [hz]; exact Bts.nil _ _
  · exact h.chg.row hy (by rintro a ha ⟨b, hb, hab⟩; exact hd hz a ha b hb hab)
theorem put_any (ao : Option Addr) (n cap : Nat) (bs : List UInt8) (N size : Nat) (w : World) (h : Own w 1 ao n cap (bs.map cb)) (hn : n ≤ 70368744177664) (hN : N < 18446744073709551616) (hs : size ≤ 8) :
    Calls Tryz.prog 36 #[.slice ao n cap, .int .u64 (N : Int), .int .i64 (size : Int)] w fun e w' => ∃ ao' cap', e = .returned (.slice ao' (n + size) cap') ∧ SlApp w ao w' ao' (n + size) cap' (bs ++ be size N) := by
  have H := Lib.hid h
  clear h
  go_enter Tryz.func36, Tryz.ntmps36
  go_wp2
  go_loopg [0, 7] size (fun g b i wr => ∃ (k : Nat) (ro : Option Addr) (rc : Nat), g + k = size ∧ b = .slice ro (n + k) rc ∧ i = .int .i64 ((size : Int) - 1 - k) ∧ SlApp w ao wr ro (n + k) rc (bs ++ (be size N).take k))
  case atStart => exact ⟨0, ao, cap, by omega, rfl, by go_num, by simpa using ⟨H.out, Chg.refl _ _, fun _ h => .inl h⟩⟩
  case round =>
    obtain ⟨k, ro, rc, hk, rfl, rfl, hsl⟩ := hrel
    have HS := Lib.hid hsl
    clear hsl
    by_cases hlt : k < size
    · obtain ⟨I, hI⟩ : ∃ I : Nat, I + k + 1 = size := ⟨size - 1 - k, by omega⟩
      have e1 : (size : Int) - 1 - k = (I : Int) := by omega
      rw [e1]
      go_wp2
      obtain ⟨G, rfl⟩ : ∃ G, G = gk := ⟨_, rfl⟩
      obtain ⟨wo, rfl⟩ : ∃ wo, wo = wr := ⟨_, rfl⟩
      go_loopg [8, 9] I (fun g m j wr => wr = wo ∧ ∃ q : Nat, g + q = I ∧ j = .int .i64 q ∧ m = .int .u64 ((N / 256 ^ q : Nat) : Int))
      case atStart => exact ⟨rfl, 0, by omega, rfl, by simp⟩
      case round =>
        obtain ⟨rfl, q, hq, rfl, rfl⟩ := hrel
        have hqN : N / 256 ^ q < 18446744073709551616 := Nat.lt_of_le_of_lt (Nat.div_le_self _ _) hN
        have HQ1 := Lib.hid (show N / 256 ^ (q + 1) = N / 256 ^ q / 256 by rw [Nat.pow_succ, Nat.div_div_eq_div_mul])
        obtain ⟨X, hX⟩ : ∃ X, X = N / 256 ^ q := ⟨_, rfl⟩
        rw [← hX] at HQ1 hqN ⊢
        by_cases hlt2 : q < I
        · clear hX
          go_wp2
          go_roundg (gk - 1)
          case measure => omega
          case rel =>
            refine ⟨rfl, q + 1, by omega, by go_num, ?_⟩
            rw [HQ1.out]; congr 1
        · have hqI : q = I := by omega
          subst hqI
          have HX := Lib.hid hX
          clear hX HQ1
          have hbt : Bts (wr.alloc (.cells #[.int .u8 ((X : Int) % 256)] 5)) (some ⟨wr.heap.size, 0, none⟩) [UInt8.ofNat X] := Bts.alloc wr _ _ _ _ (by simp only [List.map_cons, List.map_nil]; rw [show cb (UInt8.ofNat X) = .int .u8 ((X : Int) % 256) by simp only [cb, UInt8.toNat_ofNat']; congr 1])
          have HB := Lib.hid (And.intro (HS.out.alloc (.cells #[.int .u8 ((X : Int) % 256)] 5)) hbt)
          clear hbt
          go_wp2_with (at_builtin; refine wpList_append' rfl (.tmp 24) (.tmp 28) el_u8 rfl rfl rfl HB.out.1.own (m := 1) (news := [UInt8.ofNat X].map cb) rfl HB.out.2 (one_cb _) (by unfold maxLen; omega) (by omega) ?_; intro xo xc w2 hx hch _ hx2; have HX2 := Lib.hid (And.intro hx (And.intro hch hx2)); clear hx hch hx2)
          go_roundg (G - 1)
          case measure => omega
          case rel =>
            refine ⟨k + 1, xo, xc, by omega, by go_num, by go_num, ?_⟩
            have hx := HX2.out.1
            rw [← List.map_append] at hx
            have e2 : bs ++ List.take k (be size N) ++ [UInt8.ofNat X] = bs ++ List.take (k + 1) (be size N) := by
              rw [List.append_assoc]
              congr 1
              rw [List.take_add_one, be_get size N k (by omega), HX.out, show size - 1 - k = q by omega]
              rfl
            rw [e2] at hx
            exact HB.out.1.more hx HX2.out.2.1 HX2.out.2.2
    · go_wp2
      go_ret
      have hks : k = size := by omega
      subst hks
      refine ⟨ro, rc, rfl, ?_⟩
      have := HS.out
      rwa [List.take_of_length_le (by rw [be_length]; exact Nat.le_refl _)] at this
theorem putBytes_any (ao : Option Addr) (n cap : Nat) (bs : List UInt8) (bo : Option Addr) (m c : Nat) (ys : List UInt8) (w : World) (h : Own w 1 ao n cap (bs.map cb)) (hl : ys.length = m) (hy : Bts w bo ys) (hd : ys ≠ [] → ∀ a, bo = some a → ∀ b, ao = some b → b.block ≠ a.block) (hn : n ≤ 4398046511104) (hm : m ≤ 4294967295) :
    Calls Tryz.prog 37 #[.slice ao n cap, .slice bo m c] w fun e w' => ∃ ao' cap', e = .returned (.slice ao' (n + 4 + m) cap') ∧ SlApp w ao w' ao' (n + 4 + m) cap' (bs ++ be 4 m ++ ys) := by
  have HH := Lib.hid (And.intro h (And.intro hl (And.intro hy hd)))
  clear h hl hy hd
  go_enter Tryz.func37, Tryz.ntmps37
  go_wp2_with (first
    | (go_at_call 36; (refine (put_any ao n cap bs m 4 _ HH.out.1 (by omega) (by omega) (by decide)).mono ?_); rintro e w1 ⟨xo, xc, rfl, hx⟩; have hy1 := hx.other HH.out.2.2.1 HH.out.2.2.2; have HX := Lib.hid (And.intro hx hy1); clear hx hy1)
    | (at_builtin; refine wpList_append' rfl (.tmp 9) (.tmp 10) el_u8 rfl rfl rfl HX.out.1.own (m := m) (news := ys.map cb) (by rw [List.length_map, HH.out.2.1, Nat.mul_one]) HX.out.2 (one_cb _) (by unfold maxLen; omega) (by omega) ?_; intro zo zc w2 hx hch _ hx2; have HX2 := Lib.hid (And.intro hx (And.intro hch hx2)); clear hx hch hx2))
  go_ret
  refine ⟨zo, zc, rfl, ?_⟩
  have hx := HX2.out.1
  rw [← List.map_append] at hx
  exact HX.out.1.more hx HX2.out.2.1 HX2.out.2.2
end Go.Proofs.YtackmgmaippajaaGreat
-- part CrcT
namespace Go.Proofs.YtackmgmaippajaaGreat
set_option maxRecDepth 100000
/-- One bit goes through. -/
def stp (x : BitVec 32) : BitVec 32 := (x >>> 1) ^^^ (bif x.getLsbD 0 then 0x82f63b78#32 else 0#32)
def rep {α : Type} (f : α → α) : Nat → α → α
  | 0, x => x
  | n + 1, x => f (rep f n x)
theorem rep_succ' {α : Type} (f : α → α) (n : Nat) (x : α) : rep f (n + 1) x = rep f n (f x) := by
  induction n with
  | zero => rfl
  | succ n ih => show f (rep f (n + 1) x) = f (rep f n (f x)); rw [ih]
theorem rep_add {α : Type} (f : α → α) (m n : Nat) (x : α) : rep f (m + n) x = rep f m (rep f n x) := by
  induction m with
  | zero => simp [rep]
  | succ m ih => rw [Nat.add_right_comm]; show f (rep f (m + n) x) = f (rep f m (rep f n x)); rw [ih]
/-- A byte goes through. -/
def byt (x : BitVec 32) (c : UInt8) : BitVec 32 := rep stp 8 (x ^^^ BitVec.ofNat 32 c.toNat)
def crcs (x : BitVec 32) (bs : List UInt8) : BitVec 32 := bs.foldl byt x
def more (s : BitVec 32) (bs : List UInt8) : BitVec 32 := ~~~ (crcs (~~~ s) bs)
def crc (bs : List UInt8) : BitVec 32 := more 0#32 bs

theorem crcs_append (x : BitVec 32) (a b : List UInt8) : crcs x (a ++ b) = crcs (crcs x a) b := by simp [crcs]
theorem more_append (s : BitVec 32) (a b : List UInt8) : more (more s a) b = more s (a ++ b) := by simp [more, crcs_append]
theorem more_nil (s : BitVec 32) : more s [] = s := by simp [more, crcs]

/-! ### linear -/
theorem stp_xor (x y : BitVec 32) : stp (x ^^^ y) = stp x ^^^ stp y := by
  unfold stp
  rw [BitVec.getLsbD_xor, BitVec.ushiftRight_xor_distrib]
  cases x.getLsbD 0 <;> cases y.getLsbD 0 <;> simp only [Bool.xor_false, Bool.xor_true, Bool.not_false, Bool.not_true, cond_true, cond_false, BitVec.xor_zero]
  · rw [BitVec.xor_assoc]
  · rw [BitVec.xor_assoc, BitVec.xor_comm (y >>> 1), BitVec.xor_assoc]
  · rw [BitVec.xor_assoc (x >>> 1), ← BitVec.xor_assoc (2197175160#32), BitVec.xor_comm (2197175160#32) (y >>> 1), BitVec.xor_assoc (y >>> 1)]; simp
theorem stp_zero : stp 0#32 = 0#32 := by decide
theorem rep_stp_xor (n : Nat) (x y : BitVec 32) : rep stp n (x ^^^ y) = rep stp n x ^^^ rep stp n y := by
  induction n with
  | zero => rfl
  | succ n ih => show stp _ = stp _ ^^^ stp _; rw [ih, stp_xor]
theorem rep_stp_zero (n : Nat) : rep stp n 0#32 = 0#32 := by
  induction n with
  | zero => rfl
  | succ n ih => show stp _ = _; rw [ih, stp_zero]
theorem byteOf_xor (a b : UInt8) : BitVec.ofNat 32 (a ^^^ b).toNat = BitVec.ofNat 32 a.toNat ^^^ BitVec.ofNat 32 b.toNat := by
  rw [UInt8.toNat_xor]
  apply BitVec.eq_of_toNat_eq
  have h1 := a.toNat_lt
  have h2 := b.toNat_lt
  have h3 : a.toNat ^^^ b.toNat < 2 ^ 32 := Nat.xor_lt_two_pow (by omega) (by omega)
  simp only [BitVec.toNat_ofNat, BitVec.toNat_xor]
  rw [Nat.mod_eq_of_lt h3, Nat.mod_eq_of_lt (by omega), Nat.mod_eq_of_lt (by omega)]
theorem xor4 (a b c d : BitVec 32) : (a ^^^ b) ^^^ (c ^^^ d) = (a ^^^ c) ^^^ (b ^^^ d) := by
  rw [BitVec.xor_assoc, ← BitVec.xor_assoc b, BitVec.xor_comm b c, BitVec.xor_assoc c, ← BitVec.xor_assoc]
theorem byt_xor (x y : BitVec 32) (a b : UInt8) : byt (x ^^^ y) (a ^^^ b) = byt x a ^^^ byt y b := by
  unfold byt
  rw [byteOf_xor, ← rep_stp_xor, xor4]
theorem crcs_xor (az : List UInt8) : ∀ (bs : List UInt8) (x y : BitVec 32), az.length = bs.length → crcs (x ^^^ y) (List.zipWith (· ^^^ ·) az bs) = crcs x az ^^^ crcs y bs := by
  induction az with
  | nil => intro bs x y h; cases bs with | nil => rfl | cons _ _ => simp at h
  | cons a az ih =>
    intro bs x y h
    cases bs with
    | nil => simp at h
    | cons b bs => simp only [List.zipWith_cons_cons, crcs, List.foldl_cons]; rw [byt_xor]; exact ih bs _ _ (by simpa using h)
theorem not_xor3 (p q r : BitVec 32) : ~~~ (p ^^^ q ^^^ r) = ~~~ p ^^^ ~~~ q ^^^ ~~~ r := by
  apply BitVec.eq_of_getLsbD_eq
  intro i hi
  simp only [BitVec.getLsbD_not, BitVec.getLsbD_xor, hi, decide_true, Bool.true_and]
  cases p.getLsbD i <;> cases q.getLsbD i <;> cases r.getLsbD i <;> rfl
theorem crc_linear (a b c : List UInt8) (hb : a.length = b.length) (hc : b.length = c.length) :
    crc (List.zipWith (· ^^^ ·) (List.zipWith (· ^^^ ·) a b) c) = crc a ^^^ crc b ^^^ crc c := by
  have e : (~~~ (0#32) : BitVec 32) = (~~~ (0#32) ^^^ ~~~ (0#32)) ^^^ ~~~ (0#32) := by decide
  have h := crcs_xor (List.zipWith (· ^^^ ·) a b) c (~~~ (0#32) ^^^ ~~~ (0#32)) (~~~ (0#32)) (by simp [hb, hc])
  rw [crcs_xor a b _ _ hb, ← e] at h
  unfold crc more
  rw [← not_xor3, h]
end Go.Proofs.YtackmgmaippajaaGreat
-- part CrcW
namespace Go.Proofs.YtackmgmaippajaaGreat
set_option maxRecDepth 100000
open Go Go.RowKit

theorem max32 : (IntKind.u32.max : Int) = ((~~~ (0#32) : BitVec 32).toNat : Int) := by decide
theorem not_xor0 (x : BitVec 32) : ~~~ (0#32) ^^^ x = ~~~ x := by
  apply BitVec.eq_of_getLsbD_eq
  intro i hi
  simp only [BitVec.getLsbD_not, BitVec.getLsbD_xor, hi, decide_true, Bool.true_and, BitVec.getLsbD_zero, Bool.not_false, Bool.true_xor]
theorem not32 (x : BitVec 32) : bits .xor .u32 IntKind.u32.max (x.toNat : Int) = ((~~~ x).toNat : Int) := by
  rw [max32, xor32, not_xor0]
theorem lsb_odd (y : BitVec 32) : y.getLsbD 0 = decide (y.toNat % 2 = 1) := by rw [BitVec.getLsbD, Nat.testBit_zero]
theorem stp_odd (y : BitVec 32) (h : ((y.toNat : Int) % 2 == 1) = true) : bits .xor .u32 ((y.toNat : Int) / 2) 2197175160 = ((stp y).toNat : Int) := by
  have h1 : y.getLsbD 0 = true := by rw [lsb_odd]; simp only [beq_iff_eq] at h; simp only [decide_eq_true_eq]; omega
  rw [show (2197175160 : Int) = ((2197175160#32 : BitVec 32).toNat : Int) from rfl]
  have h2 := half32 y
  rw [show (2 : Int) = ((2 : Nat) : Int) from rfl] at *
  rw [h2, xor32]
  unfold stp; rw [h1]; rfl
theorem stp_even (y : BitVec 32) (h : ((y.toNat : Int) % 2 == 1) = false) : (y.toNat : Int) / 2 = ((stp y).toNat : Int) := by
  have h1 : y.getLsbD 0 = false := by rw [lsb_odd]; simp only [beq_eq_false_iff_ne] at h; simp only [decide_eq_false_iff_not]; omega
  rw [half32 y]
  unfold stp; rw [h1]; simp
theorem stp_go (y : BitVec 32) : bits .xor .u32 ((y.toNat : Int) / 2) (bits .and .u32 (-bits .and .u32 (y.toNat : Int) 1 % 4294967296) 2197175160) = ((stp y).toNat : Int) := by
  have e1 : (1 : Int) = ((1#32 : BitVec 32).toNat : Int) := rfl
  have e2 : (2197175160 : Int) = ((2197175160#32 : BitVec 32).toNat : Int) := rfl
  have e3 : -bits .and .u32 (y.toNat : Int) 1 % 4294967296 = (((bif y.getLsbD 0 then (BitVec.allOnes 32) else 0#32)).toNat : Int) := by
    rw [e1, and32]
    have e4 : y &&& 1#32 = bif y.getLsbD 0 then 1#32 else 0#32 := by
      apply BitVec.eq_of_getLsbD_eq
      intro i hi
      rw [BitVec.getLsbD_and]
      by_cases h0 : i = 0
      · subst h0; cases y.getLsbD 0 <;> rfl
      · have h1 : (1#32).getLsbD i = false := by simp [h0]
        rw [h1]; cases y.getLsbD 0 <;> simp [h0]
    rw [e4]
    cases y.getLsbD 0 <;> decide
  rw [e3, e2, and32]
  have h2 := half32 y
  rw [show (2 : Int) = ((2 : Nat) : Int) from rfl] at *
  rw [h2, xor32]
  unfold stp
  cases y.getLsbD 0 <;> simp
theorem byte32 (c : UInt8) : (c.toNat : Int) % 4294967296 = ((BitVec.ofNat 32 c.toNat).toNat : Int) := by
  rw [BitVec.toNat_ofNat]; rfl

/-- crc.More, at any bytes. -/
theorem more_any (sum : BitVec 32) (ao : Option Addr) (c : Nat) (bs : List UInt8) (w : World) (hn : bs.length ≤ 140737488351232) (hc : Bts w ao bs) :
    Calls Tryz.prog 128 #[.int .u32 (sum.toNat : Int), .slice ao bs.length c] w fun e w' => e = .returned (.int .u32 ((more sum bs).toNat : Int)) ∧ w = w' := by
  have HC := Lib.hid hc; clear hc
  go_enter Tryz.func128, Tryz.ntmps128
  go_wp2
  go_loopg [5, 13] bs.length (fun g x i wr => wr = w ∧ ∃ k : Nat, g + k = bs.length ∧ x = .int .u32 ((crcs (~~~ sum) (bs.take k)).toNat : Int) ∧ i = .int .i64 k)
  case atStart =>
    refine ⟨rfl, 0, by omega, ?_, rfl⟩
    rw [not32]; rfl
  case round =>
    obtain ⟨rfl, k, hk, rfl, rfl⟩ := hrel
    by_cases hlt : k < bs.length
    · obtain ⟨b, off, rfl, hcell⟩ := HC.out.at (by omega)
      have h1 := hcell k hlt
      have HT := Lib.hid (show crcs (~~~ sum) (bs.take (k + 1)) = byt (crcs (~~~ sum) (bs.take k)) bs[k] by rw [List.take_succ_eq_append_getElem hlt, crcs_append]; rfl)
      generalize crcs (~~~ sum) (bs.take k) = X at *
      generalize bs[k] = y at *
      clear hcell HC
      go_wp2
      obtain ⟨wo, rfl⟩ : ∃ wo : World, wo = wr := ⟨_, rfl⟩
      obtain ⟨G, rfl⟩ : ∃ G, G = gk := ⟨_, rfl⟩
      go_loopg [5, 21] 8 (fun g x i wr => wr = wo ∧ ∃ m : Nat, g + m = 8 ∧ x = .int .u32 ((rep stp m (X ^^^ BitVec.ofNat 32 y.toNat)).toNat : Int) ∧ i = .int .i64 m)
      case atStart =>
        refine ⟨rfl, 0, rfl, ?_, rfl⟩
        rw [byte32, xor32]; rfl
      case round =>
        obtain ⟨rfl, m, hm, rfl, rfl⟩ := hrel
        have HR := Lib.hid (show rep stp (m + 1) (X ^^^ BitVec.ofNat 32 y.toNat) = stp (rep stp m (X ^^^ BitVec.ofNat 32 y.toNat)) from rfl)
        have H8 := Lib.hid (show m = 8 → rep stp m (X ^^^ BitVec.ofNat 32 y.toNat) = byt X y by rintro rfl; rfl)
        generalize rep stp m (X ^^^ BitVec.ofNat 32 y.toNat) = Y at *
        by_cases hlt : m < 8
        · go_wp2
          go_roundg (gk - 1)
          case measure => omega
          case rel => exact ⟨rfl, m + 1, by omega, by rw [stp_go, HR.out], by go_num⟩
        · go_wp2
          go_roundg (G - 1)
          case measure => omega
          case rel => exact ⟨rfl, k + 1, by omega, by rw [H8.out (by omega), HT.out], by go_num⟩
    · go_wp2
      go_ret
      refine ⟨?_, rfl⟩
      rw [not32, List.take_of_length_le (by omega)]; rfl

theorem more_any' (sum : BitVec 32) (ao : Option Addr) (n c : Nat) (bs : List UInt8) (w : World) (hl : bs.length = n) (hn : n ≤ 140737488351232) (hc : Bts w ao bs) :
    Calls Tryz.prog 128 #[.int .u32 (sum.toNat : Int), .slice ao n c] w fun e w' => e = .returned (.int .u32 ((more sum bs).toNat : Int)) ∧ w = w' := by
  subst hl; exact more_any sum ao c bs w hn hc
/-- crc.Sum. -/
theorem sum_any (ao : Option Addr) (c : Nat) (bs : List UInt8) (w : World) (hn : bs.length ≤ 140737488351232) (hc : Bts w ao bs) :
    Calls Tryz.prog 104 #[.slice ao bs.length c] w fun e w' => e = .returned (.int .u32 ((crc bs).toNat : Int)) ∧ w = w' := by
  have HC := Lib.hid hc; clear hc
  go_enter Tryz.func104, Tryz.ntmps104
  go_wp2_with (go_at_call 128; refine (more_any 0#32 _ _ _ _ hn HC.out).mono ?_; rintro e w' ⟨rfl, rfl⟩)
  go_ret
  exact ⟨rfl, rfl⟩
theorem sum_any' (ao : Option Addr) (n c : Nat) (bs : List UInt8) (w : World) (hl : bs.length = n) (hn : n ≤ 140737488351232) (hc : Bts w ao bs) :
    Calls Tryz.prog 104 #[.slice ao n c] w fun e w' => e = .returned (.int .u32 ((crc bs).toNat : Int)) ∧ w = w' := by
  subst hl; exact sum_any ao c bs w hn hc
theorem sum_q (ao : Option Addr) (n c : Nat) (bs : List UInt8) (w : World) (hl : bs.length = n) (hn : n ≤ 140737488351232) (hc : Bts w ao bs) :
    Calls Tryz.prog 104 #[.slice ao n c] w fun e w' => e = .returned (.int .u32 ((crc bs).toNat : Int)) ∧ w' = w :=
  (sum_any' ao n c bs w hl hn hc).mono fun _ _ h => ⟨h.1, h.2.symm⟩
/-- The document's Sum. -/
theorem refsum_any (ao : Option Addr) (c : Nat) (bs : List UInt8) (w : World) (hn : bs.length ≤ 140737488351232) (hc : Bts w ao bs) :
    Calls Tryz.prog 58 #[.slice ao bs.length c] w fun e w' => e = .returned (.int .u32 ((crc bs).toNat : Int)) ∧ w = w' := by
  have HC := Lib.hid hc; clear hc
  go_enter Tryz.func58, Tryz.ntmps58
  go_wp2
  go_loopg [3, 4] bs.length (fun g x i wr => wr = w ∧ ∃ k : Nat, g + k = bs.length ∧ x = .int .u32 ((crcs (~~~ 0#32) (bs.take k)).toNat : Int) ∧ i = .int .i64 k)
  case atStart => exact ⟨rfl, 0, by omega, rfl, rfl⟩
  case round =>
    obtain ⟨rfl, k, hk, rfl, rfl⟩ := hrel
    by_cases hlt : k < bs.length
    · obtain ⟨b, off, rfl, hcell⟩ := HC.out.at (by omega)
      have h1 := hcell k hlt
      have HT := Lib.hid (show crcs (~~~ 0#32) (bs.take (k + 1)) = byt (crcs (~~~ 0#32) (bs.take k)) bs[k] by rw [List.take_succ_eq_append_getElem hlt, crcs_append]; rfl)
      generalize crcs (~~~ 0#32) (bs.take k) = X at *
      generalize bs[k] = y at *
      clear hcell HC
      obtain ⟨wo, rfl⟩ : ∃ wo : World, wo = wr := ⟨_, rfl⟩
      obtain ⟨G, rfl⟩ : ∃ G, G = gk := ⟨_, rfl⟩
      go_wp2
      go_loopg [3, 5] 8 (fun g x i wr => wr = wo ∧ ∃ m : Nat, g + m = 8 ∧ x = .int .u32 ((rep stp m (X ^^^ BitVec.ofNat 32 y.toNat)).toNat : Int) ∧ i = .int .i64 m)
      case atStart =>
        refine ⟨rfl, 0, rfl, ?_, rfl⟩
        rw [byte32, xor32]; rfl
      case round =>
        obtain ⟨rfl, m, hm, rfl, rfl⟩ := hrel
        have HR := Lib.hid (show rep stp (m + 1) (X ^^^ BitVec.ofNat 32 y.toNat) = stp (rep stp m (X ^^^ BitVec.ofNat 32 y.toNat)) from rfl)
        have H8 := Lib.hid (show m = 8 → rep stp m (X ^^^ BitVec.ofNat 32 y.toNat) = byt X y by rintro rfl; rfl)
        generalize rep stp m (X ^^^ BitVec.ofNat 32 y.toNat) = Y at *
        by_cases hlt : m < 8
        · go_wp2
          · go_roundg (gk - 1)
            case measure => omega
            case rel => exact ⟨rfl, m + 1, by omega, by rw [HR.out, stp_odd Y ‹_›], by go_num⟩
          · go_roundg (gk - 1)
            case measure => omega
            case rel => exact ⟨rfl, m + 1, by omega, by rw [HR.out, stp_even Y ‹_›], by go_num⟩
        · go_wp2
          go_roundg (G - 1)
          case measure => omega
          case rel => exact ⟨rfl, k + 1, by omega, by rw [H8.out (by omega), HT.out], by go_num⟩
    · go_wp2
      go_ret
      refine ⟨?_, rfl⟩
      rw [List.take_of_length_le (by omega), show (4294967295 : Int) = ((~~~ (0#32) : BitVec 32).toNat : Int) from rfl, xor32, BitVec.xor_comm, not_xor0]
      rfl
theorem refsum_any' (ao : Option Addr) (n c : Nat) (bs : List UInt8) (w : World) (hl : bs.length = n) (hn : n ≤ 140737488351232) (hc : Bts w ao bs) :
    Calls Tryz.prog 58 #[.slice ao n c] w fun e w' => e = .returned (.int .u32 ((crc bs).toNat : Int)) ∧ w = w' := by
  subst hl; exact refsum_any ao c bs w hn hc
end Go.Proofs.YtackmgmaippajaaGreat
-- part PackT
namespace Go.Proofs.YtackmgmaippajaaGreat
set_option maxRecDepth 100000
open Go Go.RowKit

/-- A thing, as the statements have it. -/
structure Thing where
  kind : UInt8
  n : Nat
  bs : List UInt8
  s : ByteArray
structure ThingIs (w : World) (t : Thing) (cs : List Value) : Prop where
  is : ∃ ao cap, cs = [.int .u8 (t.kind.toNat : Int), .int .u64 (t.n : Int), .slice ao t.bs.length cap, .string t.s] ∧ Bts w ao t.bs
  n64 : t.n < 18446744073709551616
  len : t.bs.length ≤ maxLen
  slen : t.s.size ≤ maxLen
theorem things_below {w w' : World} {co : Option Addr} {l : List Thing} (h : RowOf w co 4 (ThingIs w) l) (hb : Below w.heap.size w w') : RowOf w' co 4 (ThingIs w') l := by
  intro h0
  obtain ⟨b, off, rfl, hz⟩ := h h0
  refine ⟨b, off, rfl, fun i hi => ?_⟩
  obtain ⟨es, hes, ⟨⟨ao, cap, he, hab⟩, h1, h2, h3⟩, hc⟩ := hz i hi
  exact ⟨es, hes, ⟨⟨ao, cap, he, hab.below hb⟩, h1, h2, h3⟩, fun j v hv => (Chg.of_below hb (fun _ => False)).cell (hc j v hv) (fun h => h)⟩
/-- What a thing is as bytes. -/
def Thing.enc (t : Thing) : List UInt8 :=
  if t.kind.toNat % 6 = 0 then be 1 (t.n % 256) else if t.kind.toNat % 6 = 1 then be 2 (t.n % 65536) else if t.kind.toNat % 6 = 2 then be 4 (t.n % 4294967296)
  else if t.kind.toNat % 6 = 3 then be 8 t.n else if t.kind.toNat % 6 = 4 then be 4 t.bs.length ++ t.bs else be 4 t.s.size ++ t.s.data.toList
/-- No thing is longer than the statements let in. -/
def Short (l : List Thing) : Prop := l.length ≤ 60 ∧ ∀ t ∈ l, t.bs.length ≤ 1000 ∧ t.s.size ≤ 1000
/-- All of them. -/
def encs (l : List Thing) : List UInt8 := l.flatMap Thing.enc
theorem encs_take {l : List Thing} {k : Nat} {t : Thing} (h : l[k]? = some t) : encs (l.take (k + 1)) = encs (l.take k) ++ t.enc := by
  rw [encs, List.take_add_one, h, List.flatMap_append]; simp [encs]
theorem enc_len (t : Thing) (h : t.bs.length ≤ 1000 ∧ t.s.size ≤ 1000) : t.enc.length ≤ 1004 := by
  unfold Thing.enc
  repeat' split
  all_goals simp only [List.length_append, be_length, Array.length_toList]
  all_goals first | omega | (have : t.s.data.size = t.s.size := rfl; omega)
theorem encs_len : ∀ (l : List Thing), (∀ t ∈ l, t.bs.length ≤ 1000 ∧ t.s.size ≤ 1000) → (encs l).length ≤ 1004 * l.length
  | [], _ => by simp [encs]
  | t :: l, h => by
    have := encs_len l (fun t ht => h t (by simp [ht]))
    have := enc_len t (h t (by simp))
    simp only [encs, List.flatMap_cons, List.length_append, List.length_cons] at *
    omega
/-- A writer and the document's bytes, both made behind w0. -/
structure Both (w0 w : World) (p : Nat) (F : List Nat) (bo : Option Addr) (n cap : Nat) (bw bs : List UInt8) : Prop where
  wr : WrAt w p bw F
  own : Own w 1 bo n cap (bs.map cb)
  new : ∀ k ∈ F, w0.heap.size ≤ k
  newb : ∀ a, bo = some a → w0.heap.size ≤ a.block ∧ a.block ∉ F
  below : Below w0.heap.size w0 w
theorem Both.alloc {w0 w : World} {p : Nat} {F : List Nat} {bo : Option Addr} {n cap : Nat} {bw bs : List UInt8} (h : Both w0 w p F bo n cap bw bs) (o : Obj) : Both w0 (w.alloc o) p F bo n cap bw bs :=
  ⟨h.wr.keep ((Chg.refl (fun _ => False) _).alloc o) (fun _ _ h => h), h.own.keep ((Chg.refl (fun _ => False) _).alloc o) (fun _ _ h => h), h.new, h.newb, h.below.alloc h.below.size o⟩
theorem Both.drew {w0 w : World} {p : Nat} {F : List Nat} {bo : Option Addr} {n cap : Nat} {bw bs : List UInt8} (h : Both w0 w p F bo n cap bw bs) : Both w0 w.drew p F bo n cap bw bs :=
  ⟨h.wr.keep ((Chg.refl (fun _ => False) _).drew) (fun _ _ h => h), h.own.drew, h.new, h.newb, h.below.drew⟩
theorem Both.wrote {w0 w w' : World} {p : Nat} {F : List Nat} {bo : Option Addr} {n cap : Nat} {bw bw' bs : List UInt8} (h : Both w0 w p F bo n cap bw bs) (hn : WrNow w p F bw' w') : ∃ F', Both w0 w' p F' bo n cap bw' bs := by
  obtain ⟨F', h1, h2, h3⟩ := hn
  refine ⟨F', h1, h.own.keep h2 (fun a ha => (h.newb a ha).2), fun k hk => ?_, fun a ha => ⟨(h.newb a ha).1, fun hF => ?_⟩, h.below.trans (h2.below h.below.size h.new)⟩
  · rcases h3 k hk with e | e
    · exact h.new k e
    · exact Nat.le_trans h.below.size e
  · rcases h3 _ hF with e | e
    · exact (h.newb a ha).2 e
    · have := (h.own.at_ a ha).2.1; omega
theorem Both.slid {w0 w w' : World} {p : Nat} {F : List Nat} {bo bo' : Option Addr} {n n' cap cap' : Nat} {bw bs bs' : List UInt8} (h : Both w0 w p F bo n cap bw bs) (hs : SlApp w bo w' bo' n' cap' bs') : Both w0 w' p F bo' n' cap' bw bs' := by
  refine ⟨h.wr.keep hs.chg ?_, hs.own, h.new, fun a ha => ?_, h.below.trans (hs.chg.below h.below.size ?_)⟩
  · rintro k hk ⟨a, ha, rfl⟩
    exact (h.newb a ha).2 hk
  · rcases hs.at_ a ha with e | e
    · exact h.newb a e
    · exact ⟨Nat.le_trans h.below.size e, fun hF => by have := h.wr.lt _ hF; omega⟩
  · rintro k ⟨a, ha, rfl⟩
    exact (h.newb a ha).1
end Go.Proofs.YtackmgmaippajaaGreat
-- part PackV
namespace Go.Proofs.YtackmgmaippajaaGreat
set_option maxRecDepth 100000
open Go Go.RowKit

/-- Behind a writer's call the thing's box is as it was. -/
theorem put_next {w0 wa w1 : World} {p T : Nat} {F : List Nat} {bo : Option Addr} {n cap : Nat} {L bw : List UInt8} {o : Obj} (h : Both w0 wa p F bo n cap L L) (hw : wa.heap[T]? = some o) (hT : ∀ k ∈ F, k ≠ T) (hn : WrNow wa p F bw w1) : ∃ F2, Both w0 w1 p F2 bo n cap bw L ∧ w1.heap[T]? = some o := by
  obtain ⟨F2, hB⟩ := h.wrote hn
  obtain ⟨_, _, hc, _⟩ := hn
  exact ⟨F2, hB, hc.heap hw (fun hk => hT T hk rfl)⟩
theorem u8_anyI (p : Nat) (bs : List UInt8) (F : List Nat) (n : Nat) (V : Int) (w : World) (h : WrAt w p bs F) (hV : V = (n : Int)) (hn : n < 256) (hb : bs.length ≤ 70368744177664) :
    Calls Tryz.prog 88 #[.pointer (some ⟨p, 0, none⟩), .int .u8 V] w fun e w' => e = .returned (.tuple #[]) ∧ WrNow w p F (bs ++ be 1 n) w' := by
  subst hV; exact u8_any p bs F n w h hn hb
theorem u16_anyI (p : Nat) (bs : List UInt8) (F : List Nat) (n : Nat) (V : Int) (w : World) (h : WrAt w p bs F) (hV : V = (n : Int)) (hn : n < 65536) (hb : bs.length ≤ 70368744177664) :
    Calls Tryz.prog 92 #[.pointer (some ⟨p, 0, none⟩), .int .u16 V] w fun e w' => e = .returned (.tuple #[]) ∧ WrNow w p F (bs ++ be 2 n) w' := by
  subst hV; exact u16_any p bs F n w h hn hb
theorem u32_anyI (p : Nat) (bs : List UInt8) (F : List Nat) (n : Nat) (V : Int) (w : World) (h : WrAt w p bs F) (hV : V = (n : Int)) (hn : n < 4294967296) (hb : bs.length ≤ 70368744177664) :
    Calls Tryz.prog 119 #[.pointer (some ⟨p, 0, none⟩), .int .u32 V] w fun e w' => e = .returned (.tuple #[]) ∧ WrNow w p F (bs ++ be 4 n) w' := by
  subst hV; exact u32_any p bs F n w h hn hb
theorem put_anyI (ao : Option Addr) (n cap : Nat) (bs : List UInt8) (N size : Nat) (V S : Int) (w : World) (h : Own w 1 ao n cap (bs.map cb)) (hn : n ≤ 70368744177664) (hV : V = (N : Int)) (hS : S = (size : Int)) (hN : N < 18446744073709551616) (hs : size ≤ 8) :
    Calls Tryz.prog 36 #[.slice ao n cap, .int .u64 V, .int .i64 S] w fun e w' => ∃ ao' cap', e = .returned (.slice ao' (n + size) cap') ∧ SlApp w ao w' ao' (n + size) cap' (bs ++ be size N) := by
  subst hV; subst hS; exact put_any ao n cap bs N size w h hn hN hs
end Go.Proofs.YtackmgmaippajaaGreat
-- part PackF
namespace Go.Proofs.YtackmgmaippajaaGreat
set_option maxRecDepth 100000
open Go Go.RowKit

/-- A frame. -/
def frame (bs : List UInt8) : List UInt8 := be 4 bs.length ++ be 4 (crc bs).toNat ++ bs
theorem frame_len (bs : List UInt8) : (frame bs).length = bs.length + 8 := by
  unfold frame; rw [List.length_append, List.length_append, be_length, be_length]; omega
theorem frame_new {w wa w1 : World} {F F1 : List Nat} (hb : Below w.heap.size w wa) (hc : Chg (· ∈ F) wa w1) (hg : Grew wa F F1) (hF : ∀ k ∈ F, w.heap.size ≤ k) : Below w.heap.size w w1 ∧ ∀ k ∈ F1, w.heap.size ≤ k :=
  ⟨hb.trans (hc.below hb.size hF), fun k hk => (hg k hk).elim (hF k) (Nat.le_trans hb.size)⟩
set_option maxHeartbeats 1000000 in
set_option maxRecDepth 100000 in
theorem frame_any (ao : Option Addr) (n c N : Nat) (bs : List UInt8) (w : World) (hl : bs.length = n) (hn : n ≤ 4096) (hb : Bts w ao bs) (hN : N = n + 8) :
    Calls Tryz.prog 87 #[.slice ao n c] w fun e w' => ∃ fo fc, e = .returned (.tuple #[.slice fo N fc, .int .i64 0]) ∧ Below w.heap.size w w' ∧ Own w' 1 fo N fc ((frame bs).map cb) ∧ ∀ a, fo = some a → w.heap.size ≤ a.block := by
  subst hl
  have h0 : WrAt (w.alloc (.cells #[.slice none 0 0] 161)) w.heap.size [] [w.heap.size] := ⟨none, 0, heap_top _ _, Own.nil' _ _, by simp, rfl⟩
  have hb0 := (Below.refl _ w).alloc (Nat.le_refl _) (.cells #[.slice none 0 0] 161)
  have H0 := Lib.hid (And.intro h0 (And.intro hb0 hb))
  have hcr := (crc bs).isLt
  clear h0 hb0 hb
  have hn32 := IntWalk.u32_in (bs.length : Int) (by omega)
  have hcl := Lib.hid (show ([] ++ be 4 bs.length).length ≤ 70368744177664 by simp [be_length])
  go_enter Tryz.func87, Tryz.ntmps87
  go_wp2_with (first
    | (go_at_call 119; (with_reducible refine (u32_anyI w.heap.size [] _ bs.length _ _ H0.out.1 rfl (by omega) (by decide)).mono ?_); rintro e1 w1 ⟨rfl, F1, h1, h2, h3⟩; have H1 := Lib.hid (And.intro h1 (And.intro (frame_new H0.out.2.1 h2 h3 (by simp)).1 (frame_new H0.out.2.1 h2 h3 (by simp)).2)); clear h1 h2 h3)
    | (go_at_call 104; (with_reducible refine (sum_any' ao _ c bs _ rfl (by omega) (H0.out.2.2.below H1.out.2.1)).mono ?_); rintro e2 w2 ⟨rfl, rfl⟩)
    | (go_at_call 119; (with_reducible refine (u32_anyI w.heap.size _ _ (crc bs).toNat _ _ H1.out.1 rfl hcr hcl.out).mono ?_); rintro e3 w3 ⟨rfl, F3, h1, h2, h3⟩; have hB3 := frame_new H1.out.2.1 h2 h3 H1.out.2.2; obtain ⟨xo, xc, g1, g2, g3, g4⟩ := h1; have z0 := heap_cell g1 0; have z1 := heap_frozen g1 0; simp at z0; have H3 := Lib.hid (And.intro g1 (And.intro g2 (And.intro g3 (And.intro g4 hB3)))); clear h2 h3 g1 g2 g3 g4 hB3)
    | (at_builtin; refine wpList_append' rfl (.tmp 23) (.tmp 24) el_u8 rfl rfl rfl H3.out.2.1 (by rw [List.length_map, Nat.mul_one]) (H0.out.2.2.below H3.out.2.2.2.2.1) (one_cb _) (by simp [be_length, maxLen]; omega) (by simp [be_length]; omega) ?_; intro yo yc w4 hx hch _ hx2; have hp4 := hch.heap H3.out.1 (fun ⟨a, ha, e⟩ => H3.out.2.2.1 a ha e); have y0 := heap_cell hp4 0; have y1 := heap_frozen hp4 0; simp at y0; have H4 := Lib.hid (And.intro hx (And.intro hch (And.intro hx2 hp4))); clear hx hch hx2 hp4))
  go_ret2
  obtain ⟨hx, hch, hx2, hp4⟩ := H4.out
  obtain ⟨g1, g2, g3, g4, hb3, hf3⟩ := H3.out
  have hNN : (be 4 bs.length).length + (be 4 (crc bs).toNat).length + bs.length = N := by rw [be_length, be_length]; omega
  have hfr : ([] ++ be 4 bs.length ++ be 4 (crc bs).toNat).map cb ++ bs.map cb = (frame bs).map cb := by rw [← List.map_append]; rfl
  have hT : w.heap.size < w3.heap.size := heap_lt g1
  have hyT : ∀ a, yo = some a → a.block ≠ w.heap.size := by
    intro a ha
    rcases hx2 a ha with h | h
    · exact g3 a h
    · omega
  have hs := Chg.one w4 w.heap.size 0 (.slice yo ((be 4 bs.length).length + (be 4 (crc bs).toNat).length + bs.length) yc)
  rw [hfr] at hx
  refine ⟨yo, yc, by rw [← hNN]; rfl, ?_, ?_, ?_⟩
  · refine (hb3.trans (hch.below hb3.size ?_)).trans (hs.below (Nat.le_trans hb3.size hch.size) (fun k hk => by omega))
    rintro k ⟨a, ha, e⟩
    exact e ▸ hf3 _ (by rw [g4]; simp [ha])
  · rw [← hNN]
    exact hx.keep hs hyT
  · intro a ha
    rcases hx2 a ha with h | h
    · exact hf3 _ (by rw [g4]; simp [h])
    · omega
end Go.Proofs.YtackmgmaippajaaGreat
-- part PackK
namespace Go.Proofs.YtackmgmaippajaaGreat
set_option maxRecDepth 100000
open Go Go.RowKit

theorem ube_app (l : List UInt8) (n : Nat) : l.foldl (fun n c => n * 256 + c.toNat) n = n * 256 ^ l.length + ube l := by
  unfold ube
  induction l generalizing n with
  | nil => simp
  | cons c cs ih =>
    simp only [List.foldl_cons, List.length_cons]
    rw [ih (n * 256 + c.toNat), ih (0 * 256 + c.toNat), Nat.pow_succ]
    simp only [Nat.zero_mul, Nat.zero_add]
    rw [Nat.add_mul, Nat.add_assoc, Nat.mul_assoc, Nat.mul_comm 256]
theorem ube_cons (c : UInt8) (l : List UInt8) : ube (c :: l) = c.toNat * 256 ^ l.length + ube l := by
  have := ube_app l c.toNat
  rw [← this]
  simp [ube]
theorem be_succ (k n : Nat) : be (k + 1) n = UInt8.ofNat (n / 256 ^ k) :: be k n := by
  apply List.ext_getElem?
  intro j
  cases j with
  | zero => rw [be_get _ _ _ (by omega)]; simp
  | succ j =>
    by_cases hj : j < k
    · rw [be_get _ _ _ (by omega), List.getElem?_cons_succ, be_get _ _ _ hj]
      rw [show k + 1 - 1 - (j + 1) = k - 1 - j by omega]
    · rw [List.getElem?_eq_none (by rw [be_length]; omega), List.getElem?_cons_succ, List.getElem?_eq_none (by rw [be_length]; omega)]
theorem ube_be (k n : Nat) : ube (be k n) = n % 256 ^ k := by
  induction k with
  | zero => simp [be, ube, Nat.mod_one]
  | succ k ih =>
    rw [be_succ, ube_cons, ih, be_length, UInt8.toNat_ofNat']
    have h := Nat.mod_mul (x := n) (a := 256 ^ k) (b := 256)
    rw [Nat.pow_succ 256 k, h, Nat.mul_comm (256 ^ k), show (2 : Nat) ^ 8 = 256 from rfl]
    omega
theorem be_take (k n : Nat) (rest : List UInt8) : (be k n ++ rest).take k = be k n := by
  rw [List.take_append_of_le_length (by rw [be_length]; exact Nat.le_refl _), List.take_of_length_le (by rw [be_length]; exact Nat.le_refl _)]
theorem be_drop' (k n : Nat) (rest : List UInt8) : (be k n ++ rest).drop k = rest := by
  rw [List.drop_append, List.drop_of_length_le (by rw [be_length]; exact Nat.le_refl _), be_length]; simp
theorem ru8_put (p : Nat) (D : Option Nat) (n : Nat) (rest : List UInt8) (w : World) (h : RdrAt w p D (be 1 n ++ rest)) (hn : n < 256) (hb : rest.length ≤ 70368744177664) :
    Calls Tryz.prog 70 #[.pointer (some ⟨p, 0, none⟩)] w fun e w' => e = .returned (.int .u8 (n : Int)) ∧ RdrAt w' p D rest ∧ Chg (· = p) w w' := by
  have := ru8_any p D _ w h (by simp [be_length]) (by rw [List.length_append, be_length]; omega)
  rwa [be_take, be_drop', ube_be, Nat.mod_eq_of_lt (by omega)] at this
theorem ru16_put (p : Nat) (D : Option Nat) (n : Nat) (rest : List UInt8) (w : World) (h : RdrAt w p D (be 2 n ++ rest)) (hn : n < 65536) (hb : rest.length ≤ 70368744177664) :
    Calls Tryz.prog 108 #[.pointer (some ⟨p, 0, none⟩)] w fun e w' => e = .returned (.int .u16 (n : Int)) ∧ RdrAt w' p D rest ∧ Chg (· = p) w w' := by
  have := ru16_any p D _ w h (by simp [be_length]) (by rw [List.length_append, be_length]; omega)
  rwa [be_take, be_drop', ube_be, Nat.mod_eq_of_lt (by omega)] at this
theorem ru32_put (p : Nat) (D : Option Nat) (n : Nat) (rest : List UInt8) (w : World) (h : RdrAt w p D (be 4 n ++ rest)) (hn : n < 4294967296) (hb : rest.length ≤ 70368744177664) :
    Calls Tryz.prog 102 #[.pointer (some ⟨p, 0, none⟩)] w fun e w' => e = .returned (.int .u32 (n : Int)) ∧ RdrAt w' p D rest ∧ Chg (· = p) w w' := by
  have := ru32_any p D _ w h (by simp [be_length]) (by rw [List.length_append, be_length]; omega)
  rwa [be_take, be_drop', ube_be, Nat.mod_eq_of_lt (by omega)] at this
theorem ru64_put (p : Nat) (D : Option Nat) (n : Nat) (rest : List UInt8) (w : World) (h : RdrAt w p D (be 8 n ++ rest)) (hn : n < 18446744073709551616) (hb : rest.length ≤ 70368744177664) :
    Calls Tryz.prog 73 #[.pointer (some ⟨p, 0, none⟩)] w fun e w' => e = .returned (.int .u64 (n : Int)) ∧ RdrAt w' p D rest ∧ Chg (· = p) w w' := by
  have := ru64_any p D _ w h (by simp [be_length]) (by rw [List.length_append, be_length]; omega)
  rwa [be_take, be_drop', ube_be, Nat.mod_eq_of_lt (by omega)] at this
theorem rbytes_put (p : Nat) (D : Option Nat) (n : Nat) (ys rest : List UInt8) (w : World) (h : RdrAt w p D (be 4 n ++ ys ++ rest)) (hl : ys.length = n) (hn : n < 4294967296) (hb : rest.length ≤ 70368744177664) :
    Calls Tryz.prog 72 #[.pointer (some ⟨p, 0, none⟩)] w fun e w' => ∃ bo cap, e = .returned (.slice bo n cap) ∧ Bts w' bo ys ∧ RdrAt w' p D rest ∧ Chg (· = p) w w' := by
  have hu : ube ((be 4 n ++ ys ++ rest).take 4) = n := by rw [List.append_assoc, be_take, ube_be, Nat.mod_eq_of_lt (by omega)]
  have hlen : (be 4 n ++ ys ++ rest).length = 4 + n + rest.length := by rw [List.length_append, List.length_append, be_length, hl]
  have := rbytes_any p D _ w h (by rw [hlen]; omega) (by rw [hu, hlen]; omega) (by rw [hlen]; omega)
  rw [hu] at this
  refine this.mono ?_
  rintro e w' ⟨bo, cap, he, ho, _, hr, hc⟩
  refine ⟨bo, cap, he, ?_, ?_, hc⟩
  · have := ho.bts
    rw [List.append_assoc, be_drop', List.take_append_of_le_length (by omega), List.take_of_length_le (by omega)] at this
    exact this
  · have e1 : (be 4 n ++ ys ++ rest).drop (4 + n) = rest := by
      rw [List.drop_append, List.drop_of_length_le (by rw [List.length_append, be_length]; omega), List.length_append, be_length, hl]; simp
    rwa [e1] at hr
end Go.Proofs.YtackmgmaippajaaGreat
-- part PackG
namespace Go.Proofs.YtackmgmaippajaaGreat
set_option maxRecDepth 100000
open Go Go.RowKit

theorem unframe_short (ao : Option Addr) (n c : Nat) (w : World) (hn : n < 8) :
    Calls Tryz.prog 63 #[.slice ao n c] w fun e w' => e = .returned (.tuple #[.slice none 0 0, .slice none 0 0, .int .i64 4]) ∧ w = w' := by
  go_enter Tryz.func63, Tryz.ntmps63
  go_wp2
  go_ret3
  exact ⟨rfl, rfl⟩
set_option maxHeartbeats 4000000 in
set_option maxRecDepth 100000 in
theorem unframe_any (ao : Option Addr) (n c : Nat) (xs rest : List UInt8) (w : World) (hl : (frame xs ++ rest).length = n) (hx : xs.length ≤ 4096) (hn : n ≤ 1000000) (hb : Bts w ao (frame xs ++ rest)) (hnc : n ≤ c) (hm : c ≤ maxLen) :
    Calls Tryz.prog 63 #[.slice ao n c] w fun e w' => ∃ bo bc ro rc, e = .returned (.tuple #[.slice bo xs.length bc, .slice ro rest.length rc, .int .i64 0]) ∧ Below w.heap.size w w' ∧ Own w' 1 bo xs.length bc (xs.map cb) ∧ Own w' 1 ro rest.length rc (rest.map cb) ∧
      (∀ a, bo = some a → w.heap.size ≤ a.block) ∧ (∀ a, ro = some a → w.heap.size ≤ a.block) := by
  have hcr := (crc xs).isLt
  have hfl := frame_len xs
  have hn8 : 8 ≤ n := by rw [← hl, List.length_append, hfl]; omega
  have hrl : xs.length + rest.length + 8 = n := by rw [← hl, List.length_append, hfl]; omega
  have hap : frame xs ++ rest = be 4 xs.length ++ (be 4 (crc xs).toNat ++ (xs ++ rest)) := by unfold frame; simp only [List.append_assoc]
  have hbel : ∀ (o : Obj), Below w.heap.size w (w.alloc o) := fun o => (Below.refl _ w).alloc (Nat.le_refl _) o
  have h0 : RdrAt (w.alloc (.cells #[.slice ao n c] 182)) w.heap.size (ao.map (·.block)) (be 4 xs.length ++ (be 4 (crc xs).toNat ++ (xs ++ rest))) := by
    rw [← hap]
    refine ⟨ao, c, ?_, hb.below (hbel _), by omega, hm, fun hz a ha => ?_⟩
    · rw [hl]; exact heap_top _ _
    · subst ha
      exact ⟨rfl, by have := bts_lt hb hz a rfl; omega⟩
  have H0 := Lib.hid h0
  have HL := Lib.hid (And.intro (show (be 4 (crc xs).toNat ++ (xs ++ rest)).length ≤ 70368744177664 by simp [be_length]; omega) (And.intro (show (xs ++ rest).length ≤ 70368744177664 by simp; omega) (And.intro (show xs.length ≤ (xs ++ rest).length by simp) (show (xs ++ rest).length ≤ 140737488351232 by simp; omega))))
  have HT := Lib.hid (And.intro (show (xs ++ rest).take xs.length = xs by simp) (show (xs ++ rest).drop xs.length = rest by simp))
  have hxl : xs.length < 4294967296 := by omega
  have hlen2 : ((xs ++ rest).length : Int) = (xs.length : Int) + (rest.length : Int) := by simp
  have hu1 := IntWalk.u64_in ((xs.length : Int) + (rest.length : Int)) (by omega)
  have hgt : ¬ ((xs.length : Int) + (rest.length : Int) < (xs.length : Int)) := by omega
  have hn8i : ¬ (n : Int) < 8 := by omega
  clear h0 hb hap hbel hfl hl
  go_enter Tryz.func63, Tryz.ntmps63
  go_wp2_with (first
    | (go_at_call 102; (with_reducible refine (ru32_put w.heap.size _ xs.length _ _ H0.out hxl HL.out.1).mono ?_); rintro e1 w1 ⟨rfl, h1, h2⟩; have H1 := Lib.hid (And.intro h1 h2); clear h1 h2)
    | (go_at_call 102; (with_reducible refine (ru32_put w.heap.size _ (crc xs).toNat _ _ H1.out.1 hcr HL.out.2.1).mono ?_); rintro e2 w2 ⟨rfl, h1, h2⟩; have hz := h1; obtain ⟨ro0, rc0, hz1, -⟩ := hz; have hz2 := heap_cell hz1 0; simp at hz2; have H2 := Lib.hid (And.intro h1 h2); clear h1 h2 hz1)
    | (go_at_call 103; (with_reducible refine (take_any w.heap.size _ (xs ++ rest) xs.length _ H2.out.1 HL.out.2.2.1 HL.out.2.2.2).mono ?_); rintro e3 w3 ⟨eo, tc, rfl, k1, _, _, k4, k5⟩; rw [HT.out.1] at k1; rw [HT.out.2] at k4; obtain ⟨so, sc, g1, g2, _⟩ := k4; have y0 := heap_cell g1 0; simp at y0; have H3 := Lib.hid (And.intro k1 (And.intro g1 (And.intro g2 k5))); clear k1 k5 g1 g2)
    | (go_at_call 104; (with_reducible refine (sum_any' eo _ tc xs _ rfl (by omega) H3.out.1).mono ?_); rintro e4 w4 ⟨rfl, rfl⟩))
  have d0 : w3.drew.cell? ⟨w.heap.size, 0, none⟩ = some (.slice so rest.length sc) := y0
  have hx7 : xs.length ≤ 140737488351232 := by omega
  have hr7 : rest.length ≤ 140737488351232 := by omega
  have HCX := Lib.hid (fun w1 (hw : Below w3.drew.heap.size w3.drew w1) => clone_any eo _ tc xs w1 rfl hx7 (H3.out.1.drew.below hw))
  have HCR := Lib.hid (fun w1 (hw : Below w3.drew.heap.size w3.drew w1) => clone_any so _ sc rest w1 rfl hr7 (H3.out.2.2.1.drew.below hw))
  go_region_with (first
    | (go_at_call 46; (with_reducible refine (HCX.out _ (Below.refl _ _)).mono ?_); rintro e5 w5 ⟨bo, bc, rfl, m1, m2, m3⟩; have q0 := heap_cell ((Chg.of_below m1 (fun _ => False)).heap H3.out.2.1 (fun h => h)) 0; simp at q0; have H5 := Lib.hid (And.intro m1 (And.intro m2 m3)); clear m1 m2 m3)
    | (go_at_call 46; (with_reducible refine (HCR.out _ H5.out.1).mono ?_); rintro e6 w6 ⟨ro, rc, rfl, m1, m2, m3⟩; have H6 := Lib.hid (And.intro m1 (And.intro m2 m3)); clear m1 m2 m3))
  all_goals (
    go_wp2
    go_ret3
    have hb0 := (Below.refl _ w).alloc (Nat.le_refl _) (.cells #[.slice ao n c] 182)
    have b1 := hb0.trans (H1.out.2.below hb0.size (fun k hk => by omega))
    have b2 := b1.trans (H2.out.2.below b1.size (fun k hk => by omega))
    have b3 := (b2.trans (H3.out.2.2.2.below b2.size (fun k hk => by omega))).drew
    have b5 := b3.trans (H5.out.1.mono b3.size)
    exact ⟨bo, bc, ro, rc, rfl, b5.trans (H6.out.1.mono b5.size), H5.out.2.1.keep (Chg.of_below H6.out.1 (fun _ => False)) (fun _ _ h => h), H6.out.2.1, fun a ha => Nat.le_trans b3.size (H5.out.2.2 a ha), fun a ha => Nat.le_trans b5.size (H6.out.2.2 a ha)⟩)
end Go.Proofs.YtackmgmaippajaaGreat
