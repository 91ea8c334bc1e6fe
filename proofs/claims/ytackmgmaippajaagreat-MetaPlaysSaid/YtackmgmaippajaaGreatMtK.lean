/-
  LAYER 8: strings.Repeat, by the shelf (printed by laytext.py and m8rep.py); Key; Cmd; long.
-/
import Derived.Test.YtackmgmaippajaaGreatMtG
import Derived.Test.YtackmgmaippajaaGreatMtS
import Derived.Shelf.Strings.Repeat
import Derived.Deep.RegionHeld3
namespace Go.Proofs.YtackmgmaippajaaGreat
open Go Go.RowKit Go.Shelf

def ren105 : Go.Shelf.Ren := ⟨fun | 105 => 55 | 212 => 95 | 99 => 75 | 165 => 96 | 166 => 97 | 170 => 98 | 169 => 99 | 263 => 124 | 264 => 125 | 206 => 109 | 240 => 126 | 241 => 127 | 276 => 135 | 277 => 136 | n => n, fun | 9 => 9 | 3 => 3 | 4 => 4 | 20 => 20 | 0 => 0 | 46 => 46 | 109 => 168 | 5 => 5 | 72 => 172 | 76 => 176 | 51 => 67 | 146 => 204 | 53 => 28 | 148 => 206 | 70 => 170 | 37 => 25 | 75 => 175 | 127 => 208 | 164 => 214 | 80 => 178 | n => n, fun | n => n⟩
theorem lays105 : Go.Proofs.Lays.n105 Tryz.prog ren105 := {
  mixed := by kernel_rfl
  f99 := Tryz.func75.trans (congrArg some (by kernel_rfl))
  f105 := Tryz.func55.trans (congrArg some (by kernel_rfl))
  f165 := Tryz.func96.trans (congrArg some (by kernel_rfl))
  f166 := Tryz.func97.trans (congrArg some (by kernel_rfl))
  f169 := Tryz.func99.trans (congrArg some (by kernel_rfl))
  f170 := Tryz.func98.trans (congrArg some (by kernel_rfl))
  f206 := Tryz.func109.trans (congrArg some (by kernel_rfl))
  f212 := Tryz.func95.trans (congrArg some (by kernel_rfl))
  f240 := Tryz.func126.trans (congrArg some (by kernel_rfl))
  f241 := Tryz.func127.trans (congrArg some (by kernel_rfl))
  f263 := Tryz.func124.trans (congrArg some (by kernel_rfl))
  f264 := Tryz.func125.trans (congrArg some (by kernel_rfl))
  f276 := Tryz.func135.trans (congrArg some (by kernel_rfl))
  f277 := Tryz.func136.trans (congrArg some (by kernel_rfl))
  t0 := Tryz.underlying0
  a0 := Tryz.isAgg0
  z0 := Tryz.sizeOf0
  v0 := Tryz.zeroValue0
  t3 := Tryz.underlying3
  a3 := Tryz.isAgg3
  z3 := Tryz.sizeOf3
  v3 := Tryz.zeroValue3
  t4 := Tryz.underlying4
  a4 := Tryz.isAgg4
  z4 := Tryz.sizeOf4
  v4 := Tryz.zeroValue4
  t5 := Tryz.underlying5
  a5 := Tryz.isAgg5
  z5 := Tryz.sizeOf5
  v5 := Tryz.zeroValue5
  t9 := Tryz.underlying9
  a9 := Tryz.isAgg9
  z9 := Tryz.sizeOf9
  v9 := Tryz.zeroValue9
  t20 := Tryz.underlying20
  a20 := Tryz.isAgg20
  z20 := Tryz.sizeOf20
  v20 := Tryz.zeroValue20
  t37 := Tryz.underlying25
  a37 := Tryz.isAgg25
  z37 := Tryz.sizeOf25
  v37 := Tryz.zeroValue25
  t46 := Tryz.underlying46
  a46 := Tryz.isAgg46
  z46 := Tryz.sizeOf46
  v46 := Tryz.zeroValue46
  t51 := Tryz.underlying67
  a51 := Tryz.isAgg67
  z51 := Tryz.sizeOf67
  v51 := Tryz.zeroValue67
  t53 := Tryz.underlying28
  a53 := Tryz.isAgg28
  z53 := Tryz.sizeOf28
  v53 := Tryz.zeroValue28
  t70 := Tryz.underlying170
  a70 := Tryz.isAgg170
  z70 := Tryz.sizeOf170
  v70 := Tryz.zeroValue170
  t72 := Tryz.underlying172
  a72 := Tryz.isAgg172
  z72 := Tryz.sizeOf172
  v72 := Tryz.zeroValue172
  t75 := Tryz.underlying175
  a75 := Tryz.isAgg175
  z75 := Tryz.sizeOf175
  v75 := Tryz.zeroValue175
  t76 := Tryz.underlying176
  a76 := Tryz.isAgg176
  z76 := Tryz.sizeOf176
  v76 := Tryz.zeroValue176
  t109 := Tryz.underlying168
  a109 := Tryz.isAgg168
  z109 := Tryz.sizeOf168
  v109 := Tryz.zeroValue168
  t127 := Tryz.underlying208
  a127 := Tryz.isAgg208
  z127 := Tryz.sizeOf208
  v127 := Tryz.zeroValue208
  t146 := Tryz.underlying204
  a146 := Tryz.isAgg204
  z146 := Tryz.sizeOf204
  v146 := Tryz.zeroValue204
  t148 := Tryz.underlying206
  a148 := Tryz.isAgg206
  z148 := Tryz.sizeOf206
  v148 := Tryz.zeroValue206
  t164 := Tryz.underlying214
  a164 := Tryz.isAgg214
  z164 := Tryz.sizeOf214
  v164 := Tryz.zeroValue214 }
theorem extra105 : Builder.Extra Tryz.prog ren105 := {
  sizeBuilder := by kernel_rfl
  liesBuilder := by kernel_rfl
  infoByte := by kernel_rfl
  cellsByte := by kernel_rfl
  sizeByte := by kernel_rfl
  t5 := Tryz.underlying5
  a5 := Tryz.isAgg5
  z5 := Tryz.sizeOf5
  v5 := Tryz.zeroValue5
  neB5 := by decide }
theorem repeat_any (s : ByteArray) (n : Int) (c : Nat) (w : World) (hn : n = (c : Int)) (hc : c ≤ 9223372036854775807) (hl : s.size * c ≤ 140737488355328) :
    Calls Tryz.prog 55 #[.string s, .int .i64 n] w fun e w' => ∃ K : ByteArray, e = .returned (.string K) ∧ K.size = c * s.size ∧ Below w.heap.size w w' := by
  subst hn
  refine (show Calls Tryz.prog 55 _ w _ from Any.strings_Repeat lays105 extra105 s c w hc hl).mono ?_
  rintro e w' ⟨rfl, hb⟩
  refine ⟨_, rfl, ?_, hb⟩
  show (Lib.repeatL s.data.toList c).toArray.size = _
  rw [List.size_toArray, Lib.repeatL_length]
  rfl
theorem key_empty (s : ByteArray) (w : World) (h : s.size = 0) : Calls Tryz.prog 27 #[.string s] w fun e w' => e = .returned (.string s) ∧ w = w' := by
  have h0 : ¬ (0 : Int) < (s.size : Int) := by omega
  go_enter Tryz.func27, Tryz.ntmps27
  go_wp2
  go_ret
  exact ⟨rfl, rfl⟩
def tabK (K1 K2 : ByteArray) : Array Value := #[.string ⟨#[97]⟩, .string ⟨#[98]⟩, .string ⟨#[97, 98]⟩, .string ⟨#[97, 98, 99]⟩, .string ⟨#[]⟩, .string ⟨#[111, 119, 110, 47, 120]⟩, .string ⟨#[111, 119, 110, 47, 121]⟩, .string K1, .string K2]
theorem tab_at (K1 K2 : ByteArray) (q : Nat) (hq : q < 9) (h1 : K1.size ≤ 65) (h2 : K2.size ≤ 65) : ∃ K, (tabK K1 K2)[q]? = some (.string K) ∧ K.size ≤ 65 := by
  have : q = 0 ∨ q = 1 ∨ q = 2 ∨ q = 3 ∨ q = 4 ∨ q = 5 ∨ q = 6 ∨ q = 7 ∨ q = 8 := by omega
  rcases this with rfl | rfl | rfl | rfl | rfl | rfl | rfl | rfl | rfl 
  · exact ⟨_, rfl, by decide⟩
  · exact ⟨_, rfl, by decide⟩
  · exact ⟨_, rfl, by decide⟩
  · exact ⟨_, rfl, by decide⟩
  · exact ⟨_, rfl, by decide⟩
  · exact ⟨_, rfl, by decide⟩
  · exact ⟨_, rfl, by decide⟩
  · exact ⟨_, rfl, h1⟩
  · exact ⟨_, rfl, h2⟩
theorem tab_cell (W : World) (K1 K2 : ByteArray) (q : Nat) (hq : q < 9) (h1 : K1.size ≤ 65) (h2 : K2.size ≤ 65) : ∃ K, (W.alloc (.cells #[.string ⟨#[97]⟩, .string ⟨#[98]⟩, .string ⟨#[97, 98]⟩, .string ⟨#[97, 98, 99]⟩, .string ⟨#[]⟩, .string ⟨#[111, 119, 110, 47, 120]⟩, .string ⟨#[111, 119, 110, 47, 121]⟩, .string K1, .string K2] 9)).cell? ⟨W.heap.size, q, none⟩ = some (.string K) ∧ K.size ≤ 65 := by
  obtain ⟨K, hK, hs⟩ := tab_at K1 K2 q hq h1 h2
  exact ⟨K, (heap_cell (heap_top W _) q).trans hK, hs⟩
set_option maxHeartbeats 2000000 in
set_option maxRecDepth 100000 in
theorem key_some (s : ByteArray) (w : World) (h : 0 < s.size) : Calls Tryz.prog 27 #[.string s] w fun e w' => ∃ K : ByteArray, e = .returned (.string K) ∧ K.size ≤ max s.size 65 ∧ Below w.heap.size w w' := by
  have h0 : (0 : Int) < (s.size : Int) := by omega
  obtain ⟨q, hq9, hqi⟩ : ∃ q : Nat, q < 9 ∧ (s[0].toNat : Int) % 9 = (q : Int) := ⟨s[0].toNat % 9, Nat.mod_lt _ (by decide), by omega⟩
  have hqt : (s[0].toNat : Int).tmod 9 = (q : Int) := by rw [Int.tmod_eq_emod_of_nonneg (by omega)]; exact hqi
  have hqw : (IntKind.i64.wrap (s[0].toNat : Int)).tmod 9 = (q : Int) := by
    have hb : s[0].toNat < 256 := s[0].toNat_lt
    rw [IntWalk.i64_in _ (by omega)]; exact hqt
  clear hqi hqt
  have hj9 : (q : Int) < 9 := by omega
  have hj0 : (0 : Int) ≤ (q : Int) := by omega
  go_enter Tryz.func27, Tryz.ntmps27
  go_upto_region 2 with fail
  · go_region_with (go_at_call 55; first
      | ((with_reducible refine (repeat_any ⟨#[107]⟩ 64 64 _ rfl (by decide) (by decide)).mono ?_); rintro e1 w1 ⟨K1, rfl, hs1, hb1⟩; have H1 := Lib.hid hb1; have S1 := Lib.hid hs1; clear hb1 hs1)
      | ((with_reducible refine (repeat_any ⟨#[107]⟩ 65 65 _ rfl (by decide) (by decide)).mono ?_); rintro e2 w2 ⟨K2, rfl, hs2, hb2⟩; have H2 := Lib.hid hb2; obtain ⟨K, hK, hKs⟩ := tab_cell w2 K1 K2 q hq9 (by rw [S1.out]; decide) (by rw [hs2]; decide); have HKS := Lib.hid hKs; clear hb2 hs2 hKs))
    all_goals go_wp2
    all_goals (
      go_ret
      exact ⟨_, rfl, Nat.le_trans HKS.out (Nat.le_max_right ..), ((Below.refl w.heap.size w).drew.trans H1.out).trans ((H2.out.mono H1.out.size).alloc (Nat.le_trans H1.out.size H2.out.size) _)⟩)
  · go_wp2
    go_ret
    exact ⟨_, rfl, Nat.le_max_left .., Below.refl _ _⟩
theorem key_any (s : ByteArray) (w : World) : Calls Tryz.prog 27 #[.string s] w fun e w' => ∃ K : ByteArray, e = .returned (.string K) ∧ K.size ≤ max s.size 65 ∧ Below w.heap.size w w' := by
  by_cases h : s.size = 0
  · refine (key_empty s w h).mono ?_
    rintro e w' ⟨rfl, rfl⟩
    exact ⟨s, rfl, Nat.le_max_left .., Below.refl _ _⟩
  · exact key_some s w (by omega)
/-! ### commands of a law -/
structure CmT where
  c : Cm
  vo : Option Addr
  vc : Nat
theorem cmt_of {w : World} {po : Option Addr} {ps : List CmT} {k : Nat} (h : RowOf w po 6 (fun t cs => CmIs w t.c t.vo t.vc cs) ps) (hk : k < ps.length) : ∃ (b off : Nat) (c : Cm) (vo : Option Addr) (vc : Nat), po = some ⟨b, off, none⟩ ∧ CmIs w c vo vc (c.cells vo vc).toList ∧
    ∀ w', Below w.heap.size w w' → w'.cell? ⟨b, off + k * 6, none⟩ = some (.int .u8 (c.kind : Int)) ∧ w'.cell? ⟨b, off + k * 6 + 1, none⟩ = some (.string c.key) ∧ w'.cell? ⟨b, off + k * 6 + 2, none⟩ = some (.slice vo c.val.length vc) ∧ w'.cell? ⟨b, off + k * 6 + 3, none⟩ = some (.int .u64 (c.want : Int)) ∧ w'.cell? ⟨b, off + k * 6 + 4, none⟩ = some (.int .u64 (c.sess : Int)) ∧ w'.cell? ⟨b, off + k * 6 + 5, none⟩ = some (.int .u64 (c.ticks : Int)) := by
  obtain ⟨zb, zoff, rfl, hz1⟩ := h (by omega)
  obtain ⟨es, hes, hx, hcell⟩ := hz1 k hk
  have e := hx.is
  subst e
  refine ⟨zb, zoff, ps[k].c, ps[k].vo, ps[k].vc, rfl, hx, fun w' hb => ?_⟩
  have hC := Chg.of_below hb (fun _ => False)
  have c0 := hC.cell (hcell 0 _ rfl) (fun h => h)
  have c1 := hC.cell (hcell 1 _ rfl) (fun h => h)
  have c2 := hC.cell (hcell 2 _ rfl) (fun h => h)
  have c3 := hC.cell (hcell 3 _ rfl) (fun h => h)
  have c4 := hC.cell (hcell 4 _ rfl) (fun h => h)
  have c5 := hC.cell (hcell 5 _ rfl) (fun h => h)
  simp only [Nat.add_zero] at c0
  exact ⟨c0, c1, c2, c3, c4, c5⟩
/-- Is a command longer than the laws go? -/
def Cm.long (c : Cm) : Bool := decide (5000 < c.key.size) || decide (5000 < c.val.length)
set_option maxRecDepth 100000 in
theorem long_any (c : Cm) (vo : Option Addr) (vc : Nat) (w : World) :
    Calls Tryz.prog 8 #[.agg (c.cells vo vc)] w fun e w' => e = .returned (.bool c.long) ∧ Below w.heap.size w w' := by
  obtain ⟨kind, key, val, want, sess, ticks⟩ := c
  dsimp only [Cm.cells, Cm.long]
  have HA := Lib.hid ((Below.refl w.heap.size w).alloc (Nat.le_refl _) (.cells #[.int .u8 (kind : Int), .string key, .slice vo val.length vc, .int .u64 (want : Int), .int .u64 (sess : Int), .int .u64 (ticks : Int)] 39))
  by_cases h1 : 5000 < key.size
  · have h1i : (5000 : Int) < (key.size : Int) := by omega
    go_enter Tryz.func8, Tryz.ntmps8
    go_wp2
    go_ret
    exact ⟨by simp [h1], HA.out⟩
  · have h1i : ¬ (5000 : Int) < (key.size : Int) := by omega
    by_cases h2 : 5000 < val.length
    · have h2i : (5000 : Int) < (val.length : Int) := by omega
      go_enter Tryz.func8, Tryz.ntmps8
      go_wp2
      go_ret
      exact ⟨by simp [h2], HA.out⟩
    · have h2i : ¬ (5000 : Int) < (val.length : Int) := by omega
      go_enter Tryz.func8, Tryz.ntmps8
      go_wp2
      go_ret
      exact ⟨by simp [h1, h2], HA.out⟩
set_option maxHeartbeats 1000000 in
set_option maxRecDepth 100000 in
theorem cmd_any (c : Cm) (vo : Option Addr) (vc : Nat) (w : World) (hk : c.kind < 256) :
    Calls Tryz.prog 9 #[.agg (c.cells vo vc)] w fun e w' => ∃ K : ByteArray, e = .returned (.agg (Cm.cells ⟨c.kind % 9, K, c.val, c.want, c.sess, c.ticks⟩ vo vc)) ∧ K.size ≤ max c.key.size 65 ∧ Below w.heap.size w w' := by
  obtain ⟨kind, key, val, want, sess, ticks⟩ := c
  dsimp only [Cm.cells] at *
  obtain ⟨q, hq⟩ : ∃ q : Nat, kind % 9 = q := ⟨_, rfl⟩
  rw [hq]
  have hqi : (kind : Int).tmod 9 = (q : Int) := by rw [Int.tmod_eq_emod_of_nonneg (by omega)]; omega
  have hqj : (kind : Int) % 9 = (q : Int) := by omega
  have hq9 : (q : Int) < 9 := by omega
  have hT := heap_new (o := .cells #[.int .u8 0, .string ⟨#[]⟩, .slice none 0 0, .int .u64 0, .int .u64 0, .int .u64 0] 39) (heap_top w (.cells #[.int .u8 (kind : Int), .string key, .slice vo val.length vc, .int .u64 (want : Int), .int .u64 (sess : Int), .int .u64 (ticks : Int)] 39))
  have hR := heap_top (w.alloc (.cells #[.int .u8 (kind : Int), .string key, .slice vo val.length vc, .int .u64 (want : Int), .int .u64 (sess : Int), .int .u64 (ticks : Int)] 39)) (.cells #[.int .u8 0, .string ⟨#[]⟩, .slice none 0 0, .int .u64 0, .int .u64 0, .int .u64 0] 39)
  rw [size_alloc] at hR
  have HB := Lib.hid (((Below.refl w.heap.size w).alloc (Nat.le_refl _) (.cells #[.int .u8 (kind : Int), .string key, .slice vo val.length vc, .int .u64 (want : Int), .int .u64 (sess : Int), .int .u64 (ticks : Int)] 39)).alloc (by rw [size_alloc]; omega) (.cells #[.int .u8 0, .string ⟨#[]⟩, .slice none 0 0, .int .u64 0, .int .u64 0, .int .u64 0] 39))
  clear hk hq
  go_enter Tryz.func9, Tryz.ntmps9
  go_upto_region 1 with fail
  generalize (w.alloc (.cells #[.int .u8 (kind : Int), .string key, .slice vo val.length vc, .int .u64 (want : Int), .int .u64 (sess : Int), .int .u64 (ticks : Int)] 39)).alloc (.cells #[.int .u8 0, .string ⟨#[]⟩, .slice none 0 0, .int .u64 0, .int .u64 0, .int .u64 0] 39) = wa at *
  obtain ⟨a0, a1, a2, a3, a4, a5⟩ := cells6 hT (Below.refl _ _)
  have af := heap_frozen hT 0
  go_upto_region 2 with fail
  have hT2 := heap_set hT 0 (.int .u8 (q : Int))
  have hR2 := heap_far (a := ⟨w.heap.size, 0, none⟩) hR (Nat.ne_of_gt (Nat.lt_succ_self w.heap.size)) (.int .u8 (q : Int))
  have hch : Chg (fun k => k = w.heap.size) wa (wa.setCell ⟨w.heap.size, 0, none⟩ (.int .u8 (q : Int))) := (Chg.refl (fun k => k = w.heap.size) wa).set (p := w.heap.size) rfl 0 _
  have HB2 := Lib.hid (HB.out.trans (hch.below HB.out.size (fun k hk => Nat.le_of_eq hk.symm)))
  simp only [List.setIfInBounds_toArray, List.set_cons_zero, List.set_cons_succ] at hT2
  generalize wa.setCell ⟨w.heap.size, 0, none⟩ (.int .u8 (q : Int)) = wb at *
  clear hT hR hch a0 a1 a2 a3 a4 a5 af
  obtain ⟨b0, b1, b2, b3, b4, b5⟩ := cells6 hT2 (Below.refl _ _)
  have HT := Lib.hid (And.intro hT2 hR2)
  clear hT2 hR2
  go_upto_region 3 with (go_at_call 27; (with_reducible refine (key_any key wb).mono ?_); rintro e w2 ⟨K, rfl, hs, hb⟩; have hT3 := (Chg.of_below hb (fun _ => False)).heap HT.out.1 (fun h => h); have hR3 := (Chg.of_below hb (fun _ => False)).heap HT.out.2 (fun h => h); have cf := heap_frozen hT3 1; obtain ⟨e0, e1, e2, e3, e4, e5⟩ := cells6 hT3 (Below.refl _ _); have H2 := Lib.hid (And.intro hs (HB2.out.trans (hb.mono HB2.out.size))); clear hb hs)
  have hT4 := heap_set hT3 1 (.string K)
  have hR4 := heap_far (a := ⟨w.heap.size, 1, none⟩) hR3 (Nat.ne_of_gt (Nat.lt_succ_self w.heap.size)) (.string K)
  have hch : Chg (fun k => k = w.heap.size) w2 (w2.setCell ⟨w.heap.size, 1, none⟩ (.string K)) := (Chg.refl (fun k => k = w.heap.size) w2).set (p := w.heap.size) rfl 1 _
  have HB4 := Lib.hid (H2.out.2.trans (hch.below H2.out.2.size (fun k hk => Nat.le_of_eq hk.symm)))
  simp only [List.setIfInBounds_toArray, List.set_cons_zero, List.set_cons_succ] at hT4
  generalize w2.setCell ⟨w.heap.size, 1, none⟩ (.string K) = w4 at *
  clear hT3 hR3 hch cf b0 b1 b2 b3 b4 b5 e0 e1 e2 e3 e4 e5
  obtain ⟨d0, d1, d2, d3, d4, d5⟩ := cells6 hT4 (Below.refl _ _)
  obtain ⟨r0, r1, r2, r3, r4, r5⟩ := cells6 hR4 (Below.refl _ _)
  have rf0 := heap_frozen hR4 0
  have rf1 := heap_frozen hR4 1
  have rf2 := heap_frozen hR4 2
  have rf3 := heap_frozen hR4 3
  have rf4 := heap_frozen hR4 4
  have rf5 := heap_frozen hR4 5
  have g := heap_set (heap_set (heap_set (heap_set (heap_set (heap_set hR4 0 (.int .u8 (q : Int))) 1 (.string K)) 2 (.slice vo val.length vc)) 3 (.int .u64 (want : Int))) 4 (.int .u64 (sess : Int))) 5 (.int .u64 (ticks : Int))
  simp only [List.setIfInBounds_toArray, List.set_cons_zero, List.set_cons_succ] at g
  have hch2 : Chg (fun k => k = w.heap.size + 1) w4 ((((((w4.setCell ⟨w.heap.size + 1, 0, none⟩ (.int .u8 (q : Int))).setCell ⟨w.heap.size + 1, 1, none⟩ (.string K)).setCell ⟨w.heap.size + 1, 2, none⟩ (.slice vo val.length vc)).setCell ⟨w.heap.size + 1, 3, none⟩ (.int .u64 (want : Int))).setCell ⟨w.heap.size + 1, 4, none⟩ (.int .u64 (sess : Int))).setCell ⟨w.heap.size + 1, 5, none⟩ (.int .u64 (ticks : Int))) :=
    ((((((Chg.refl (fun k => k = w.heap.size + 1) w4).set (p := w.heap.size + 1) rfl 0 _).set (p := w.heap.size + 1) rfl 1 _).set (p := w.heap.size + 1) rfl 2 _).set (p := w.heap.size + 1) rfl 3 _).set (p := w.heap.size + 1) rfl 4 _).set (p := w.heap.size + 1) rfl 5 _
  have HF := Lib.hid (And.intro g (HB4.out.trans (hch2.below HB4.out.size (fun k hk => by omega))))
  clear g hch2 hT4 hR4
  go_wp2
  generalize (((((w4.setCell ⟨w.heap.size + 1, 0, none⟩ (.int .u8 (q : Int))).setCell ⟨w.heap.size + 1, 1, none⟩ (.string K)).setCell ⟨w.heap.size + 1, 2, none⟩ (.slice vo val.length vc)).setCell ⟨w.heap.size + 1, 3, none⟩ (.int .u64 (want : Int))).setCell ⟨w.heap.size + 1, 4, none⟩ (.int .u64 (sess : Int))).setCell ⟨w.heap.size + 1, 5, none⟩ (.int .u64 (ticks : Int)) = W5 at *
  obtain ⟨c0, c1, c2, c3, c4, c5⟩ := cells6 HF.out.1 (Below.refl _ _)
  refine bodyPost_ret (v := .agg #[.int .u8 (q : Int), .string K, .slice vo val.length vc, .int .u64 (want : Int), .int .u64 (sess : Int), .int .u64 (ticks : Int)]) (w := W5) ?_ rfl ?_
  · simp [results, Tryz.results9, go_sem, c0, c1, c2, c3, c4, c5]
  · exact ⟨K, rfl, H2.out.1, HF.out.2⟩
end Go.Proofs.YtackmgmaippajaaGreat
