/-
  LAYER 2: a writer in memory, as bytes; the contracts of its calls.
-/
import Derived.Test.YtggidllaodloiaaProg
import Derived.Test.YtggidllaodloiaaBase
import Derived.Test.YtggidllaodloiaaOpen
import Derived.Deep.LoopGhost
import Derived.Deep.QuietTactic
import Derived.BigQuiet
import Derived.WalkLawsBesides
import Derived.WalkSpells
import Derived.Lib.SliceRun
import Derived.Deep.DeepCutAuto
import Derived.Deep.CutBlock
import Derived.Deep.RegionLaw
namespace Go.Proofs.Ytggidllaodloiaa
open Go Go.RowKit

/-- A thing at block p whose one field is a slice of bytes of its own; F: its blocks. -/
def WrAt (w : World) (p : Nat) (bs : List UInt8) (F : List Nat) : Prop :=
  ∃ ao cap, w.heap[p]? = some (.cells #[.slice ao bs.length cap] 70 (0, 0)) ∧ Own w 1 ao bs.length cap (bs.map cb) ∧ (∀ a, ao = some a → a.block ≠ p) ∧ F = p :: (ao.map (·.block)).toList
theorem WrAt.lt {w : World} {p : Nat} {bs : List UInt8} {F : List Nat} (h : WrAt w p bs F) : ∀ k ∈ F, k < w.heap.size := by
  obtain ⟨ao, cap, h1, h2, h3, rfl⟩ := h
  intro k hk
  rcases List.mem_cons.1 hk with rfl | hk
  · exact heap_lt h1
  · cases ao with
    | none => simp at hk
    | some a => simp at hk; subst hk; exact (h2.at_ a rfl).2.1
theorem WrAt.keep {w w' : World} {p : Nat} {bs : List UInt8} {F : List Nat} (h : WrAt w p bs F) {S : Nat → Prop} (hc : Chg S w w') (hS : ∀ k ∈ F, ¬ S k) : WrAt w' p bs F := by
  obtain ⟨ao, cap, h1, h2, h3, rfl⟩ := h
  refine ⟨ao, cap, hc.heap h1 (hS _ (by simp)), h2.keep hc ?_, h3, rfl⟩
  rintro a rfl; exact hS _ (by simp)
/-- The writer as it is behind a call; nothing else has turned. -/
def WrNow (w : World) (p : Nat) (F : List Nat) (bs : List UInt8) (w' : World) : Prop := ∃ F', WrAt w' p bs F' ∧ Chg (· ∈ F) w w' ∧ Grew w F F'
theorem wr_now {w w2 : World} {p : Nat} {bs bs' : List UInt8} {ao xo : Option Addr} {cap xc : Nat} (h1 : w.heap[p]? = some (.cells #[.slice ao bs.length cap] 70 (0, 0))) (h3 : ∀ a, ao = some a → a.block ≠ p)
    (hp : w2.heap[p]? = some (.cells #[.slice xo bs'.length xc] 70 (0, 0))) (ho : Own w2 1 xo bs'.length xc (bs'.map cb)) (hx : ∀ a, xo = some a → ao = some a ∨ w.heap.size ≤ a.block)
    (hc : Chg (fun k => k = p ∨ ∃ a, ao = some a ∧ a.block = k) w w2) : WrNow w p (p :: (ao.map (·.block)).toList) bs' w2 := by
  have hpl : p < w.heap.size := heap_lt h1
  refine ⟨_, ⟨xo, xc, hp, ho, ?_, rfl⟩, hc.to ?_, ?_⟩
  · intro a ha
    rcases hx a ha with e | e
    · exact h3 a e
    · omega
  · rintro k (rfl | ⟨a, rfl, rfl⟩) <;> simp
  · intro k hk
    rcases List.mem_cons.1 hk with rfl | hk
    · exact .inl (by simp)
    · cases xo with
      | none => simp at hk
      | some a =>
        simp at hk; subst hk
        rcases hx a rfl with e | e
        · left; rw [e]; simp
        · exact .inr e
/-- What 'x.b = append(x.b, ys...)' leaves. -/
theorem wr_app {w w1 w4 : World} {p : Nat} {bs : List UInt8} {ao so : Option Addr} {cap sc m : Nat} (ys : List UInt8) (hm : ys.length = m) (h1 : w.heap[p]? = some (.cells #[.slice ao bs.length cap] 70 (0, 0))) (h3 : ∀ a, ao = some a → a.block ≠ p)
    (hb : Below w.heap.size w w1) (hx : Own w4 1 so (bs.length + m) sc (bs.map cb ++ ys.map cb)) (hch : Chg (fun k => ∃ a, ao = some a ∧ a.block = k) w1 w4) (hx2 : ∀ a', so = some a' → ao = some a' ∨ w1.heap.size ≤ a'.block) :
    WrNow w p (p :: (ao.map (·.block)).toList) (bs ++ ys) (w4.setCell ⟨p, 0, none⟩ (.slice so (bs.length + m) sc)) := by
  subst hm
  have hpl := heap_lt h1
  have hp1 := (Chg.of_below hb (fun _ => False)).heap h1 (fun h => h)
  have hp4 := hch.heap hp1 (by rintro ⟨a, e1, e2⟩; exact h3 a e1 e2)
  have hne : ∀ a, so = some a → a.block ≠ p := by
    intro a ha
    rcases hx2 a ha with e | e
    · exact h3 a e
    · have := hb.size; omega
  refine wr_now h1 h3 (xo := so) (xc := sc) ?_ ?_ (fun a ha => (hx2 a ha).imp id (Nat.le_trans hb.size)) ?_
  · rw [heap_set hp4 0 _]; simp
  · rw [← List.map_append, ← List.length_append] at hx
    rw [List.length_append] at hx ⊢
    exact hx.keep (Chg.one _ _ _ _) hne
  · refine ((Chg.of_below hb _).trans hch ?_).set (.inl rfl) _ _
    rintro k _ ⟨a, rfl, rfl⟩; exact .inr ⟨a, rfl, rfl⟩
/-- A number as so many bytes, the greatest first. -/
def be (size n : Nat) : List UInt8 := (List.range size).map fun j => UInt8.ofNat (n / 256 ^ (size - 1 - j))
theorem be_length (size n : Nat) : (be size n).length = size := by simp [be]
theorem be_get (size n j : Nat) (h : j < size) : (be size n)[j]? = some (UInt8.ofNat (n / 256 ^ (size - 1 - j))) := by
  simp [be, h]
theorem be_drop (size n : Nat) (h : size ≤ 8) : (be 8 n).drop (8 - size) = be size n := by
  apply List.ext_getElem?
  intro j
  rw [List.getElem?_drop]
  by_cases hj : j < size
  · rw [be_get _ _ _ (by omega), be_get _ _ _ hj]
    congr 4; omega
  · rw [List.getElem?_eq_none (by rw [be_length]; omega), List.getElem?_eq_none (by rw [be_length]; omega)]
theorem shr_be (n i : Nat) : ((n : Int) / 2 ^ (8 * i) % 256) = ((UInt8.ofNat (n / 256 ^ i)).toNat : Int) := by
  rw [UInt8.toNat_ofNat', show (256 : Nat) ^ i = 2 ^ (8 * i) by rw [Nat.pow_mul]]
  simp only [Int.natCast_emod, Int.natCast_ediv, Int.natCast_pow, Int.cast_ofNat_Int]
  rfl
theorem be_of (n : Nat) {l : List UInt8} (hl : l.length = 8) (h : ∀ j, j < 8 → l[7 - j]? = some (UInt8.ofNat (n / 256 ^ j))) : l = be 8 n := by
  apply List.ext_getElem?
  intro j
  by_cases hj : j < 8
  · have := h (7 - j) (by omega)
    rw [show 7 - (7 - j) = j by omega] at this
    rw [this, be_get _ _ _ hj]
  · rw [List.getElem?_eq_none (by omega), List.getElem?_eq_none (by rw [be_length]; omega)]
set_option maxHeartbeats 1000000 in
theorem number_any (p : Nat) (bs : List UInt8) (F : List Nat) (n size : Nat) (w : World) (h : WrAt w p bs F) (hn : n < 18446744073709551616) (hs : size = 1 ∨ size = 2 ∨ size = 4 ∨ size = 8) (hb : bs.length ≤ 70368744177664) :
    Calls Try.prog 35 #[.pointer (some ⟨p, 0, none⟩), .int .u64 (n : Int), .int .i64 (size : Int)] w fun e w' => e = .returned (.tuple #[]) ∧ WrNow w p F (bs ++ be size n) w' := by
  obtain ⟨ao, cap, h1, h2, h3, rfl⟩ := h
  have HS := Lib.hid hs
  have H := Lib.hid (And.intro h1 (And.intro h2 h3))
  clear h1 h2 h3 hs
  go_enter Try.func35, Try.ntmps35
  go_wp2
  have ho := Own.alloc w 1 8 8 #[.int .u8 0, .int .u8 0, .int .u8 0, .int .u8 0, .int .u8 0, .int .u8 0, .int .u8 0, .int .u8 0] 82 ((List.replicate 8 (0 : UInt8)).map cb) (by simp) (Nat.le_refl _) (by unfold maxLen; omega) (by simp) rfl
  have HO := Lib.hid ho
  clear ho
  have HB0 := Lib.hid ((Below.refl _ w).alloc (Nat.le_refl _) (.cells #[.int .u8 0, .int .u8 0, .int .u8 0, .int .u8 0, .int .u8 0, .int .u8 0, .int .u8 0, .int .u8 0] 82))
  generalize hg : w.heap.size = g at *
  have HG := Lib.hid hg
  clear hg
  go_loopg [8] 8 (fun k i wr => ∃ (j : Nat) (l : List UInt8), k + j = 8 ∧ i = .int .i64 j ∧ l.length = 8 ∧ Own wr 1 (some ⟨g, 0, none⟩) 8 8 (l.map cb) ∧ Below g w wr ∧ ∀ i, i < j → l[7 - i]? = some (UInt8.ofNat (n / 256 ^ i)))
  case atStart => exact ⟨0, _, by omega, rfl, by simp, HO.out, HB0.out, fun i hi => by omega⟩
  case round =>
    obtain ⟨j, l, hj, rfl, hll, hown, hbel, hget⟩ := hrel
    by_cases hlt : j < 8
    · obtain ⟨x, ex, d1, d2⟩ := own_at hown (k := 7 - j) (by omega)
      rw [Nat.zero_add] at d1 d2
      have HR := Lib.hid (And.intro hll (And.intro hown (And.intro hbel hget)))
      clear hll hown hbel hget ex
      go_wp2
      go_roundg (gk - 1)
      case measure => omega
      case rel =>
        obtain ⟨hll, hown, hbel, hget⟩ := HR.out
        refine ⟨j + 1, l.set (7 - j) (UInt8.ofNat (n / 256 ^ j)), by omega, by go_num, by rw [List.length_set]; exact hll, ?_, ?_, fun i hi => ?_⟩
        · rw [shr_be, List.map_set]
          have h1 := hown.set (7 - j) (cb (UInt8.ofNat (n / 256 ^ j))) (by omega)
          rw [Nat.zero_add] at h1
          exact h1
        · exact hbel.setCell (Nat.le_refl _) _
        · by_cases e : i = j
          · subst e; rw [List.getElem?_set_self (by omega)]
          · rw [List.getElem?_set_ne (by omega)]; exact hget i (by omega)
    · have hl8 := be_of n hll (fun i hi => hget i (by omega))
      subst hl8
      have HR := Lib.hid (And.intro hown hbel)
      have hp := hbel.block p (by rw [← HG.out]; exact heap_lt H.out.1)
      rw [H.out.1] at hp
      have c0 := heap_cell hp 0
      have f0 := heap_frozen hp 0
      simp at c0
      have HP := Lib.hid hp
      clear hown hbel hget hll hp
      have hbs := hb
      go_wp2
      have HO1 := Lib.hid ((H.out.2.1.keep (Chg.of_below (show Below w.heap.size w wr from HG.out ▸ HR.out.2) (fun _ => False)) (fun _ _ h => h)).drew)
      have hsrc : ∀ size, size ≤ 8 → Bts wr.drew (some ⟨g, 8 - size, none⟩) (be size n) := fun size hs => by
        have h1 := (HR.out.1.bts.drop (8 - size)).drew
        rw [be_drop size n hs, Nat.zero_add] at h1
        exact h1
      have HSRC := Lib.hid hsrc
      clear hsrc
      have E7 : IntKind.i64.wrap 7 = 7 := by decide
      have E6 : IntKind.i64.wrap 6 = 6 := by decide
      have E4 : IntKind.i64.wrap 4 = 4 := by decide
      have E0 : IntKind.i64.wrap 0 = 0 := by decide
      have hbw : Below w.heap.size w wr := HG.out ▸ HR.out.2
      have HBW := Lib.hid hbw
      clear hbw
      rcases HS.out with rfl | rfl | rfl | rfl
      · go_region_law (refine step_append' rfl (.tmp 26) (.tmp 29) el_u8 rfl rfl rfl HO1.out (by rw [List.length_map, be_length]) (HSRC.out 1 (by omega)) (one_cb _) (by unfold maxLen; omega) (by omega) ?_; intro so sc w4 hx hch _ hx2; have hp4 := hch.undrew.heap HP.out (by rintro ⟨a, e1, e2⟩; exact H.out.2.2 a e1 e2); have z0 := heap_cell hp4 0; have z1 := heap_frozen hp4 0; simp at z0; have HX := Lib.hid (And.intro hx (And.intro hch (And.intro hx2 hp4))); clear hx hch hx2 hp4)
        go_wp2
        all_goals (go_end0; exact ⟨rfl, wr_app (be 1 n) (be_length _ _) H.out.1 H.out.2.2 HBW.out HX.out.1 HX.out.2.1.undrew HX.out.2.2.1⟩)
      · go_region_law (refine step_append' rfl (.tmp 26) (.tmp 29) el_u8 rfl rfl rfl HO1.out (by rw [List.length_map, be_length]) (HSRC.out 2 (by omega)) (one_cb _) (by unfold maxLen; omega) (by omega) ?_; intro so sc w4 hx hch _ hx2; have hp4 := hch.undrew.heap HP.out (by rintro ⟨a, e1, e2⟩; exact H.out.2.2 a e1 e2); have z0 := heap_cell hp4 0; have z1 := heap_frozen hp4 0; simp at z0; have HX := Lib.hid (And.intro hx (And.intro hch (And.intro hx2 hp4))); clear hx hch hx2 hp4)
        go_wp2
        all_goals (go_end0; exact ⟨rfl, wr_app (be 2 n) (be_length _ _) H.out.1 H.out.2.2 HBW.out HX.out.1 HX.out.2.1.undrew HX.out.2.2.1⟩)
      · go_region_law (refine step_append' rfl (.tmp 26) (.tmp 29) el_u8 rfl rfl rfl HO1.out (by rw [List.length_map, be_length]) (HSRC.out 4 (by omega)) (one_cb _) (by unfold maxLen; omega) (by omega) ?_; intro so sc w4 hx hch _ hx2; have hp4 := hch.undrew.heap HP.out (by rintro ⟨a, e1, e2⟩; exact H.out.2.2 a e1 e2); have z0 := heap_cell hp4 0; have z1 := heap_frozen hp4 0; simp at z0; have HX := Lib.hid (And.intro hx (And.intro hch (And.intro hx2 hp4))); clear hx hch hx2 hp4)
        go_wp2
        all_goals (go_end0; exact ⟨rfl, wr_app (be 4 n) (be_length _ _) H.out.1 H.out.2.2 HBW.out HX.out.1 HX.out.2.1.undrew HX.out.2.2.1⟩)
      · go_region_law (refine step_append' rfl (.tmp 26) (.tmp 29) el_u8 rfl rfl rfl HO1.out (by rw [List.length_map, be_length]) (HSRC.out 8 (by omega)) (one_cb _) (by unfold maxLen; omega) (by omega) ?_; intro so sc w4 hx hch _ hx2; have hp4 := hch.undrew.heap HP.out (by rintro ⟨a, e1, e2⟩; exact H.out.2.2 a e1 e2); have z0 := heap_cell hp4 0; have z1 := heap_frozen hp4 0; simp at z0; have HX := Lib.hid (And.intro hx (And.intro hch (And.intro hx2 hp4))); clear hx hch hx2 hp4)
        go_wp2
        all_goals (go_end0; exact ⟨rfl, wr_app (be 8 n) (be_length _ _) H.out.1 H.out.2.2 HBW.out HX.out.1 HX.out.2.1.undrew HX.out.2.2.1⟩)
theorem u32_any (p : Nat) (bs : List UInt8) (F : List Nat) (n : Nat) (w : World) (h : WrAt w p bs F) (hn : n < 4294967296) (hb : bs.length ≤ 70368744177664) :
    Calls Try.prog 31 #[.pointer (some ⟨p, 0, none⟩), .int .u32 (n : Int)] w fun e w' => e = .returned (.tuple #[]) ∧ WrNow w p F (bs ++ be 4 n) w' := by
  have H := Lib.hid h; clear h
  go_enter Try.func31, Try.ntmps31
  go_wp2_with (go_at_call 35; (refine (number_any p bs F n 4 _ H.out (by omega) (by decide) hb).mono ?_); rintro e w' ⟨rfl, hn⟩; have HN := Lib.hid hn; clear hn)
  go_end0
  exact ⟨rfl, HN.out⟩
theorem WrNow.trans {w w1 w2 : World} {p : Nat} {F : List Nat} {b1 b2 : List UInt8} (hF : ∀ k ∈ F, k < w.heap.size) (h : WrNow w p F b1 w1) (h2 : ∀ F1, WrAt w1 p b1 F1 → Chg (· ∈ F) w w1 → Grew w F F1 → WrNow w1 p F1 b2 w2) : WrNow w p F b2 w2 := by
  obtain ⟨F1, ha, hc, hg⟩ := h
  obtain ⟨F2, ha2, hc2, hg2⟩ := h2 F1 ha hc hg
  refine ⟨F2, ha2, hc.trans hc2 fun k hk h1 => ?_, fun k hk => ?_⟩
  · rcases hg k h1 with h | h
    · exact h
    · exact absurd hk (Nat.not_lt.2 h)
  · rcases hg2 k hk with h | h
    · exact hg k h
    · exact .inr (Nat.le_trans hc.size h)
theorem WrNow.from {w w1 w2 : World} {p : Nat} {F : List Nat} {b : List UInt8} (h : WrNow w1 p F b w2) (hb : Below w.heap.size w w1) : WrNow w p F b w2 := by
  obtain ⟨F1, ha, hc, hg⟩ := h
  exact ⟨F1, ha, (Chg.of_below hb (fun _ => False)).to (fun _ h => h.elim) |>.trans hc (fun _ _ h => h), fun k hk => (hg k hk).imp id (Nat.le_trans hb.size)⟩
theorem WrAt.below {w w' : World} {p : Nat} {bs : List UInt8} {F : List Nat} (h : WrAt w p bs F) (hb : Below w.heap.size w w') : WrAt w' p bs F := h.keep (Chg.of_below hb (fun _ => False)) (fun _ _ h => h)
theorem Chg.bts {S : Nat → Prop} {w w' : World} {ao : Option Addr} {bs : List UInt8} (hc : Chg S w w') (h : Bts w ao bs) (hd : bs ≠ [] → ∀ a, ao = some a → ¬ S a.block) : Bts w' ao bs := by
  by_cases hz : bs = []
  · rw [hz]; exact Bts.nil _ _
  · exact hc.row h (hd hz)
theorem bytesRow_bts (w : World) (s : ByteArray) (cap : Nat) (e : TypeId) (fz : Nat × Nat) : Bts (w.alloc (.cells (bytesRow s cap) e fz)) (some ⟨w.heap.size, 0, none⟩) s.data.toList := by
  have h := (Row.alloc w (bytesRow s cap) e fz).take s.size
  have e1 : (bytesRow s cap).toList.take s.size = s.data.toList.map cb := by
    unfold bytesRow
    rw [Array.toList_append, List.take_append_of_le_length (by rw [Array.length_toList, Array.size_map]; exact Nat.le_refl _), List.take_of_length_le (by rw [Array.length_toList, Array.size_map]; exact Nat.le_refl _)]
    simp [cb]
  rw [e1] at h
  exact h
end Go.Proofs.Ytggidllaodloiaa
