/-
  LAYER 8: the law MetaWatch.
-/
import Derived.Test.YtackmgmaippajaaMtH
namespace Go.Proofs.Ytackmgmaippajaa
open Go Go.RowKit

def kK : ByteArray := ⟨#[107]⟩
def sW (m : Nat) : St := ⟨0, [⟨kK, [UInt8.ofNat m], m + 1, 0⟩], 0, []⟩
abbrev cW (v want : Nat) : Cm := ⟨1, kK, [UInt8.ofNat v], want, 0, 0⟩
theorem cW_fit {v want : Nat} (h : want < 18446744073709551616) : (cW v want).Fit := ⟨by show 1 < 256; decide, by show kK.size ≤ 5000; decide, by show 1 ≤ 5000; decide, h, by show 0 < _; decide, by show 0 < _; decide⟩
theorem cW_ne {v want : Nat} : (cW v want).kind ≠ 7 := by show 1 ≠ 7; decide
theorem w1 : doS St.new (cW 0 0) = (sW 0, 1, [], 0) := by rfl
theorem lkK (x : Tr.Pl) (h : x.key = kK) : Tr.lookP [x] kK = some x := by
  have : Tr.cmpB x.key kK = 0 := Tr.cmpB_zero.2 h
  simp [Tr.lookP, this]
theorem wOk (m : Nat) (hm : m ≤ 1000) : doS (sW m) (cW (m + 1) (m + 1)) = (sW (m + 1), m + 2, [], 0) := by
  have a := lkK ⟨kK, [UInt8.ofNat m], m + 1, 0⟩ rfl
  have z : Tr.cmpB kK kK = 0 := Tr.cmpB_zero.2 rfl
  have b : Tr.setP [⟨kK, [UInt8.ofNat m], m + 1, 0⟩] ⟨kK, [UInt8.ofNat (m + 1)], m + 2, 0⟩ = [⟨kK, [UInt8.ofNat (m + 1)], m + 2, 0⟩] := by simp [Tr.setP, z]
  have c : (m + 1 + 1) % 18446744073709551616 = m + 2 := by omega
  have k1 : ¬ (kK.size = 0 ∨ 64 < kK.size) := by decide
  have p : Tr.putP [⟨kK, [UInt8.ofNat m], m + 1, 0⟩] kK [UInt8.ofNat (m + 1)] (m + 1) 0 = ([⟨kK, [UInt8.ofNat (m + 1)], m + 2, 0⟩], m + 2, 0) := by
    unfold Tr.putP
    rw [if_neg k1, if_neg (by simp), a]
    simp only
    rw [if_neg (by omega), if_neg (by simp), c, b]
  simp only [doS, late, sW, cW, p]
  simp
theorem wNo (m v : Nat) (hv : v < m) : doS (sW m) (cW (v + 1) (v + 1)) = (sW m, 0, [], 13) := by
  have a := lkK ⟨kK, [UInt8.ofNat m], m + 1, 0⟩ rfl
  have k1 : ¬ (kK.size = 0 ∨ 64 < kK.size) := by decide
  have p : Tr.putP [⟨kK, [UInt8.ofNat m], m + 1, 0⟩] kK [UInt8.ofNat (v + 1)] (v + 1) 0 = ([⟨kK, [UInt8.ofNat m], m + 1, 0⟩], 0, 13) := by
    unfold Tr.putP
    rw [if_neg k1, if_neg (by simp), a]
    simp only
    rw [if_neg (by omega), if_pos (by omega)]
  simp only [doS, late, sW, cW, p]
  simp
/-- What is seen of the key: a node of four. -/
def SeenAt (w : World) (T : Nat) (B : List Nat) (m : Nat) (cs : Array Value) (c : Nat) : Prop :=
  cs[c * 4 + 1]? = some (.slice none 0 0) ∨ ∃ v vo vc, cs[c * 4 + 1]? = some (.slice vo 1 vc) ∧ cs[c * 4 + 2]? = some (.int .u64 ((v + 1 : Nat) : Int)) ∧ v ≤ m ∧ Bts w vo [UInt8.ofNat v] ∧ ∀ a, vo = some a → a.block ∉ B ∧ a.block ≠ T
structure Seen (w : World) (T : Nat) (B : List Nat) (m : Nat) (cs : Array Value) : Prop where
  heap : w.heap[T]? = some (.cells cs 40 (0, 0))
  size : cs.size = 16
  at_ : ∀ c, c < 4 → SeenAt w T B m cs c
  out : T ∉ B
theorem Seen.keep {w w' : World} {T m m' : Nat} {B B' : List Nat} {cs : Array Value} (h : Seen w T B m cs) (hc : Chg (· ∈ B) w w') (hB : ∀ i ∈ B', i ∈ B ∨ w.heap.size ≤ i) (hm : m ≤ m') : Seen w' T B' m' cs := by
  refine ⟨hc.heap h.heap h.out, h.size, fun c hc4 => ?_, fun hk => ?_⟩
  · rcases h.at_ c hc4 with h1 | ⟨v, vo, vc, h1, h2, h3, h4, h5⟩
    · exact .inl h1
    · refine .inr ⟨v, vo, vc, h1, h2, by omega, hc.row h4 (fun a ha => (h5 a ha).1), fun a ha => ⟨fun hk => ?_, (h5 a ha).2⟩⟩
      rcases hB _ hk with hk | hk
      · exact (h5 a ha).1 hk
      · have := bts_lt h4 (by simp) a ha; omega
  · rcases hB _ hk with hk | hk
    · exact h.out hk
    · have := heap_lt h.heap; omega
theorem Seen.stays {w w' : World} {T m : Nat} {B : List Nat} {cs : Array Value} (h : Seen w T B m cs) (hb : Below w.heap.size w w') : Seen w' T B m cs :=
  h.keep (Chg.of_below hb _) (fun _ h => .inl h) (Nat.le_refl _)
theorem Seen.put {w : World} {T m v vc c : Nat} {B : List Nat} {cs : Array Value} {vo : Option Addr} {k o : Value} (h : Seen w T B m cs) (hc : c < 4) (hv : v ≤ m) (hb : Bts w vo [UInt8.ofNat v]) (hx : ∀ a, vo = some a → a.block ∉ B ∧ a.block ≠ T) :
    ∃ cs', Seen ((((w.setCell ⟨T, c * 4, none⟩ k).setCell ⟨T, c * 4 + 1, none⟩ (.slice vo 1 vc)).setCell ⟨T, c * 4 + 2, none⟩ (.int .u64 ((v + 1 : Nat) : Int))).setCell ⟨T, c * 4 + 3, none⟩ o) T B m cs' := by
  have hch : Chg (· = T) w ((((w.setCell ⟨T, c * 4, none⟩ k).setCell ⟨T, c * 4 + 1, none⟩ (.slice vo 1 vc)).setCell ⟨T, c * 4 + 2, none⟩ (.int .u64 ((v + 1 : Nat) : Int))).setCell ⟨T, c * 4 + 3, none⟩ o) :=
    ((((Chg.refl (· = T) w).set (p := T) rfl _ _).set (p := T) rfl _ _).set (p := T) rfl _ _).set (p := T) rfl _ _
  have hh := heap_set (heap_set (heap_set (heap_set h.heap (c * 4) k) (c * 4 + 1) (.slice vo 1 vc)) (c * 4 + 2) (.int .u64 ((v + 1 : Nat) : Int))) (c * 4 + 3) o
  have hs := h.size
  refine ⟨_, hh, by simp [hs], fun c' hc' => ?_, h.out⟩
  by_cases e : c' = c
  · subst e
    refine .inr ⟨v, vo, vc, ?_, ?_, hv, hch.row hb (fun a ha e => (hx a ha).2 e), hx⟩
    · simp [Array.getElem?_setIfInBounds, hs]; omega
    · simp [Array.getElem?_setIfInBounds, hs]; omega
  · have e1 : ∀ i j, i < 4 → j < 4 → ¬ (c * 4 + i = c' * 4 + j) := fun i j hi hj => by omega
    rcases h.at_ c' hc' with h1 | ⟨u, uo, uc, h1, h2, h3, h4, h5⟩
    · left
      rw [← h1]
      simp only [Array.getElem?_setIfInBounds]
      rw [if_neg (e1 3 1 (by decide) (by decide)), if_neg (e1 2 1 (by decide) (by decide)), if_neg (e1 1 1 (by decide) (by decide)), if_neg (by omega)]
    · refine .inr ⟨u, uo, uc, ?_, ?_, h3, ?_, h5⟩
      · rw [← h1]
        simp only [Array.getElem?_setIfInBounds]
        rw [if_neg (e1 3 1 (by decide) (by decide)), if_neg (e1 2 1 (by decide) (by decide)), if_neg (e1 1 1 (by decide) (by decide)), if_neg (by omega)]
      · rw [← h2]
        simp only [Array.getElem?_setIfInBounds]
        rw [if_neg (e1 3 2 (by decide) (by decide)), if_neg (e1 2 2 (by decide) (by decide)), if_neg (e1 1 2 (by decide) (by decide)), if_neg (by omega)]
      · exact hch.row h4 (fun a ha e => (h5 a ha).2 e)
set_option maxHeartbeats 4000000 in
set_option maxRecDepth 100000 in
theorem metaWatch_any (co : Option Addr) (N vc : Nat) (bs : List UInt8) (w : World) (hN : bs.length = N) (hb : Bts w co bs) (hN2 : N ≤ maxLen) :
    Calls Try.prog 3 #[.slice co N vc] w fun e w' => e = .returned (.bool true) ∧ Below w.heap.size w w' := by
  have HH := Lib.hid (And.intro hN hb)
  unfold maxLen at hN2
  clear hN hb
  have HRW := Lib.hid (rec_is (sW 0) (cW 0 0) (by decide))
  obtain ⟨D1, hD1⟩ : ∃ D1, (Jr.Dsk.more ⟨1048576, 0, []⟩ (rec (sW 0) (cW 0 0))) = D1 := ⟨_, rfl⟩
  have k1 : doK St.new ⟨1048576, 0, []⟩ (cW 0 0) = ((sW 0, D1), 1, [], 0) := by
    rw [← hD1]
    exact doK_ok w1 (by rw [HRW.out]; decide) (by rw [HRW.out]; decide)
  have m1 : D1.room = 1048576 ∧ D1.b.length ≤ 43 := by
    have := ml ⟨1048576, 0, []⟩ (rec (sW 0) (cW 0 0))
    rw [hD1, HRW.out] at this
    exact ⟨this.1, Nat.le_of_eq this.2⟩
  have HK := Lib.hid (And.intro k1 m1)
  clear k1 m1 hD1
  go_enter Try.func3, Try.ntmps3
  go_upto_region 6 with (first
    | (go_at_call 6; (with_reducible refine (awake _).mono ?_); rintro e w1 ⟨rfl, hb⟩; have H1 := Lib.hid hb; clear hb)
    | (go_at_call 7; (with_reducible refine (disk_in w 1048576 1048576 _ H1.out rfl (by decide)).mono ?_); rintro e w2 ⟨p, rfl, hb, hd, hp⟩; have H2 := Lib.hid (And.intro (H1.out.trans (hb.mono H1.out.size)) (And.intro hd (Nat.le_trans H1.out.size hp))); clear hb hd hp)
    | (go_at_call 8; (with_reducible refine (open_in w p 1048576 0 [p] _ H2.out.2.1 H2.out.1 (fun i hi => by rw [List.mem_singleton] at hi; rw [hi]; exact H2.out.2.2)).mono ?_); rintro e w3 ⟨k, B, rfl, hk, -, -⟩; have H3 := Lib.hid (And.intro (hk.stays ((Below.refl _ w3).alloc (Nat.le_refl _) (.cells #[.int .u8 0] 5))) (show Bts _ _ (cW 0 0).val from Bts.alloc w3 #[.int .u8 0] 5 (0, 0) [0] rfl)); clear hk)
    | (go_at_call 9; (with_reducible refine (do_in w k p 0 St.new (sW 0) _ D1 B (cW 0 0) ⟨#[107]⟩ (some ⟨w3.heap.size, 0, none⟩) 1 1 1 0 0 0 1 1 0 [] 0 _ H3.out.1 (by decide) (cW_fit (by decide)) H3.out.2 (.cmd (cW_fit (by decide)) (by decide)) (recC_small (cW_fit (by decide)) (by decide)) rfl rfl rfl rfl rfl rfl HK.out.1 rfl rfl).mono ?_); rintro e w4 ⟨uo1, uc1, rfl, -, -, B1, hk, -, -⟩; have H4 := Lib.hid hk; clear hk))
  go_upto_block 0 with fail
  have hb5 := (Below.refl w4.heap.size w4).alloc (Nat.le_refl _) (.cells #[.string ⟨#[]⟩, .slice none 0 0, .int .u64 0, .int .u64 0, .string ⟨#[]⟩, .slice none 0 0, .int .u64 0, .int .u64 0, .string ⟨#[]⟩, .slice none 0 0, .int .u64 0, .int .u64 0, .string ⟨#[]⟩, .slice none 0 0, .int .u64 0, .int .u64 0] 40)
  have hT := heap_top w4 (.cells #[.string ⟨#[]⟩, .slice none 0 0, .int .u64 0, .int .u64 0, .string ⟨#[]⟩, .slice none 0 0, .int .u64 0, .int .u64 0, .string ⟨#[]⟩, .slice none 0 0, .int .u64 0, .int .u64 0, .string ⟨#[]⟩, .slice none 0 0, .int .u64 0, .int .u64 0] 40)
  have hs5 : Seen (w4.alloc (.cells #[.string ⟨#[]⟩, .slice none 0 0, .int .u64 0, .int .u64 0, .string ⟨#[]⟩, .slice none 0 0, .int .u64 0, .int .u64 0, .string ⟨#[]⟩, .slice none 0 0, .int .u64 0, .int .u64 0, .string ⟨#[]⟩, .slice none 0 0, .int .u64 0, .int .u64 0] 40)) w4.heap.size B1 0 #[.string ⟨#[]⟩, .slice none 0 0, .int .u64 0, .int .u64 0, .string ⟨#[]⟩, .slice none 0 0, .int .u64 0, .int .u64 0, .string ⟨#[]⟩, .slice none 0 0, .int .u64 0, .int .u64 0, .string ⟨#[]⟩, .slice none 0 0, .int .u64 0, .int .u64 0] :=
    ⟨hT, rfl, fun c hc => by
      have : c = 0 ∨ c = 1 ∨ c = 2 ∨ c = 3 := by omega
      rcases this with rfl | rfl | rfl | rfl <;> exact .inl rfl, fun h => Nat.lt_irrefl _ (H4.out.lt _ h)⟩
  have H5 := Lib.hid (And.intro (H4.out.stays hb5) hs5)
  have hw4T : w.heap.size ≤ w4.heap.size := H4.out.below.size
  clear hb5 hT hs5
  generalize w4.alloc (.cells #[.string ⟨#[]⟩, .slice none 0 0, .int .u64 0, .int .u64 0, .string ⟨#[]⟩, .slice none 0 0, .int .u64 0, .int .u64 0, .string ⟨#[]⟩, .slice none 0 0, .int .u64 0, .int .u64 0, .string ⟨#[]⟩, .slice none 0 0, .int .u64 0, .int .u64 0] 40) = w5 at *
  generalize w4.heap.size = T at *
  go_cut [11] (fun v wx => ∃ m B d n cs, v = .int .u8 (m : Nat) ∧ Kp w wx k p (sW m) d B n ∧ Seen wx T B m cs ∧ d.room = 1048576 ∧ d.b.length ≤ 43 + 43 * 201 ∧ n ≤ 300 ∧ m ≤ 201)
  case first =>
    go_wp2
    go_loopg [11, 41] N (fun g v i wr => ∃ j m B d n cs, g + j = N ∧ i = .int .i64 (j : Nat) ∧ v = .int .u8 (m : Nat) ∧ m ≤ j ∧ j ≤ 201 ∧ Kp w wr k p (sW m) d B n ∧ Seen wr T B m cs ∧ d.room = 1048576 ∧ d.b.length ≤ 43 + 43 * j ∧ n ≤ 1 + j)
    case atStart => exact ⟨0, 0, B1, D1, 1, _, by omega, rfl, rfl, by omega, by omega, H5.out.1, H5.out.2, HK.out.2.1, HK.out.2.2, by omega⟩
    case round =>
      obtain ⟨j, m, B4, D4, n, cs, hgj, rfl, rfl, hmj, hj, hk, hs, hd1, hd2, hn⟩ := hrel
      by_cases hjN : j < N
      · have hji : (j : Int) < (N : Int) := by omega
        have hj0 : (0 : Int) ≤ (j : Int) := by omega
        obtain ⟨b, off, rfl, hcb⟩ := (HH.out.2.below hk.below).at (by rw [HH.out.1]; omega)
        have hjl : j < bs.length := by rw [HH.out.1]; exact hjN
        have c1 := hcb j hjl
        generalize bs[j] = x at *
        clear hcb
        by_cases h200 : 200 < j
        · have h200i : (200 : Int) < (j : Int) := by omega
          have HKK := Lib.hid (And.intro hk (And.intro hs (And.intro hd1 hd2)))
          clear hk hs
          go_wp2
          go_meet
          exact ⟨m, B4, D4, n, cs, rfl, HKK.out.1, HKK.out.2.1, HKK.out.2.2.1, by have := HKK.out.2.2.2; omega, by omega, by omega⟩
        · have h200i : ¬ (200 : Int) < (j : Int) := by omega
          have hx := x.toNat_lt
          have e3 : IntKind.i64.wrap (x.toNat : Int) = (x.toNat : Int) := IntWalk.i64_in _ (by omega)
          obtain ⟨c, hc4, hci⟩ : ∃ c : Nat, c < 4 ∧ ((x.toNat : Int) % 4) = (c : Int) := ⟨x.toNat % 4, by omega, by omega⟩
          have hc0 : (0 : Int) ≤ (c : Int) := by omega
          have hc4i : (c : Int) < 4 := by omega
          have hT := hs.heap
          have hz := hs.size
          obtain ⟨q0, hq0⟩ : ∃ q, cs[c * 4]? = some q := ⟨_, Array.getElem?_eq_getElem (by omega)⟩
          obtain ⟨q1, hq1⟩ : ∃ q, cs[c * 4 + 1]? = some q := ⟨_, Array.getElem?_eq_getElem (by omega)⟩
          obtain ⟨q2, hq2⟩ : ∃ q, cs[c * 4 + 2]? = some q := ⟨_, Array.getElem?_eq_getElem (by omega)⟩
          obtain ⟨q3, hq3⟩ : ∃ q, cs[c * 4 + 3]? = some q := ⟨_, Array.getElem?_eq_getElem (by omega)⟩
          have HQ := Lib.hid (fun (W : World) (hW : W.heap[T]? = some (.cells cs 40 (0, 0))) => And.intro ((heap_cell hW (c * 4)).trans hq0) (And.intro ((heap_cell hW (c * 4 + 1)).trans hq1) (And.intro ((heap_cell hW (c * 4 + 2)).trans hq2) (And.intro ((heap_cell hW (c * 4 + 3)).trans hq3) (fun i => heap_frozen hW i)))))
          by_cases hq : x.toNat / 4 % 2 = 0
          · have hqi : ((x.toNat : Int) / 4) % 2 = 0 := by omega
            have HKK := Lib.hid (And.intro hk (And.intro hs (And.intro hd1 hd2)))
            clear hk hs hT hq0 hq1 hq2 hq3 hq
            have HLK := Lib.hid (show Tr.lookP (sW m).ps ⟨#[107]⟩ = some ⟨kK, [UInt8.ofNat m], m + 1, 0⟩ from lkK ⟨kK, [UInt8.ofNat m], m + 1, 0⟩ rfl)
            go_wp2_with (go_at_call 10; (with_reducible refine (get_in w k p n (sW m) D4 B4 ⟨#[107]⟩ _ HKK.out.1).mono ?_); rintro e w6 ⟨bo, bc, rfl, hb, hx6⟩; rw [HLK.out]; have hs6 := HKK.out.2.1.stays hb; obtain ⟨t0, t1, t2, t3, tf⟩ := HQ.out _ hs6.heap; have H6 := Lib.hid (And.intro hb (And.intro hs6 (hx6 _ HLK.out))); clear hb hs6 hx6; dsimp only [gotV, Nd.val])
            obtain ⟨cs', hs'⟩ := Seen.put (c := c) (v := m) (vo := bo) (vc := bc) (k := .string kK) (o := .int .u64 0) H6.out.2.1 hc4 (Nat.le_refl _) H6.out.2.2.1.bts (fun a ha => ⟨fun h => by have := HKK.out.1.lt _ h; have := H6.out.2.2.2 a ha; omega, fun h => by have := H6.out.2.2.2 a ha; have := heap_lt HKK.out.2.1.heap; omega⟩)
            push_cast at hs'
            have hch : Chg (· = T) w6 ((((w6.setCell ⟨T, c * 4, none⟩ (.string kK)).setCell ⟨T, c * 4 + 1, none⟩ (.slice bo 1 bc)).setCell ⟨T, c * 4 + 2, none⟩ (.int .u64 ((m : Int) + 1))).setCell ⟨T, c * 4 + 3, none⟩ (.int .u64 0)) := ((((Chg.refl (· = T) w6).set (p := T) rfl _ _).set (p := T) rfl _ _).set (p := T) rfl _ _).set (p := T) rfl _ _
            have hk' := (HKK.out.1.stays H6.out.1).keep hch (fun i hi e => HKK.out.2.1.out (e ▸ hi)) (fun i hi => hi ▸ hw4T)
            have HF := Lib.hid (And.intro hk' hs')
            clear hk' hs' hch t0 t1 t2 t3 tf
            go_roundg (gk - 1)
            case measure => omega
            case rel => exact ⟨j + 1, m, B4, D4, n, cs', by omega, by go_num, rfl, by omega, by omega, HF.out.1, HF.out.2, HKK.out.2.2.1, by have := HKK.out.2.2.2; omega, by omega⟩
          · have hqi : ((x.toNat : Int) / 4) % 2 = 1 := by omega
            have HKK := Lib.hid (And.intro hk (And.intro hs (And.intro hd1 hd2)))
            clear hq0 hq1 hq2 hq3 hq HQ hd1 hd2
            rcases hs.at_ c hc4 with h1 | ⟨v, vo, vcap, h1, h2, hvm, hvb, hvx⟩
            · have g1 := (heap_cell hT (c * 4 + 1)).trans h1
              clear hk hs hT h1
              go_wp2
              go_roundg (gk - 1)
              case measure => omega
              case rel => exact ⟨j + 1, m, B4, D4, n, cs, by omega, by go_num, rfl, by omega, by omega, HKK.out.1, HKK.out.2.1, HKK.out.2.2.1, by have := HKK.out.2.2.2; omega, by omega⟩
            · have g1 := (heap_cell hT (c * 4 + 1)).trans h1
              have g2 : wr.cell? ⟨T, c * 4 + 2, none⟩ = some (.int .u64 ((v : Int) + 1)) := (heap_cell hT (c * 4 + 2)).trans h2
              obtain ⟨vb, vf, rfl, hvc⟩ := hvb.at (by simp)
              have g3 := hvc 0 (by simp)
              have hv8 : ((UInt8.ofNat v).toNat : Int) = (v : Int) := by have : (UInt8.ofNat v).toNat = v % 256 := UInt8.toNat_ofNat'; omega
              simp only [List.getElem_cons_zero, Nat.add_zero, hv8] at g3
              have HV := Lib.hid (And.intro h1 (And.intro h2 (hvx _ rfl).1))
              have e5 : IntKind.u8.wrap ((v : Int) + 1) = ((v : Int) + 1) := by rw [IntKind.wrap_u8]; omega
              have hba := (Below.refl wr.heap.size wr).drew.alloc (Nat.le_refl _) (.cells #[.int .u8 ((v : Int) + 1)] 5)
              have hba' : Below wr.heap.size wr (wr.alloc (.cells #[.int .u8 ((v : Int) + 1)] 5)).drew := ((Below.refl wr.heap.size wr).alloc (Nat.le_refl _) (.cells #[.int .u8 ((v : Int) + 1)] 5)).drew
              have hS0 : (wr.drew.cell? ⟨T, c * 4 + 1, none⟩ = some (.slice (some ⟨vb, vf, none⟩) 1 vcap) ∧ wr.drew.cell? ⟨T, c * 4 + 2, none⟩ = some (.int .u64 ((v : Int) + 1))) ∧ wr.drew.cell? ⟨vb, vf, none⟩ = some (.int .u8 (v : Int)) := ⟨⟨g1, g2⟩, g3⟩
              have hSa : ((wr.alloc (.cells #[.int .u8 ((v : Int) + 1)] 5)).drew.cell? ⟨T, c * 4 + 1, none⟩ = some (.slice (some ⟨vb, vf, none⟩) 1 vcap) ∧ (wr.alloc (.cells #[.int .u8 ((v : Int) + 1)] 5)).drew.cell? ⟨T, c * 4 + 2, none⟩ = some (.int .u64 ((v : Int) + 1))) ∧ (wr.alloc (.cells #[.int .u8 ((v : Int) + 1)] 5)).drew.cell? ⟨vb, vf, none⟩ = some (.int .u8 (v : Int)) := ⟨⟨alloc_cell g1, alloc_cell g2⟩, alloc_cell g3⟩
              have hnb : Bts (wr.alloc (.cells #[.int .u8 ((v : Int) + 1)] 5)).drew (some ⟨wr.heap.size, 0, none⟩) (cW (v + 1) (v + 1)).val := (show Bts _ _ [UInt8.ofNat (v + 1)] from (Bts.alloc wr #[.int .u8 ((v : Int) + 1)] 5 (0, 0) [UInt8.ofNat (v + 1)] (by simp [cb]; have : (UInt8.ofNat (v + 1)).toNat = (v + 1) % 256 := UInt8.toNat_ofNat'; omega)).drew)
              have HA := Lib.hid (And.intro (hk.stays hba') hnb)
              have HSA := Lib.hid (hs.stays hba')
              clear hba hba' hk hs hT h1 h2 hvb hvx hvc hv8 hnb
              by_cases hvm2 : v = m
              · subst hvm2
                have hd0 := doK_ok (d := D4) (wOk v (by omega)) (by rw [rec_is _ _ cW_ne]; show 1 + (4 + 1) + (4 + 1) + 24 ≤ 4096; decide) (by rw [rec_is _ _ cW_ne, HKK.out.2.2.1]; have := HKK.out.2.2.2; show 1 + (4 + 1) + (4 + 1) + 24 + 8 ≤ _; omega)
                have hm2 := ml D4 (rec (sW (v + 1)) (cW (v + 1) (v + 1)))
                rw [rec_is _ _ cW_ne] at hm2
                have HD := Lib.hid (And.intro hd0 (And.intro (hm2.1.trans HKK.out.2.2.1) (show (D4.more (rec (sW (v + 1)) (cW (v + 1) (v + 1)))).b.length = D4.b.length + 43 from hm2.2)))
                have e6 : IntKind.u8.wrap ((v : Int) + 1) = ((v : Int) + 1) := by rw [IntKind.wrap_u8]; omega
                clear hd0 hm2
                go_upto_region 16 with fail
                go_region_held3 (fun wx => (wx.cell? ⟨T, c * 4 + 1, none⟩ = some (.slice (some ⟨vb, vf, none⟩) 1 vcap) ∧ wx.cell? ⟨T, c * 4 + 2, none⟩ = some (.int .u64 ((v : Int) + 1))) ∧ wx.cell? ⟨vb, vf, none⟩ = some (.int .u8 (v : Int)))
                  (first | exact hS0 | exact hSa | exact hS2)
                  (first | (go_at_call 9; (with_reducible refine (do_in w k p n (sW v) (sW (v + 1)) D4 (D4.more (rec (sW (v + 1)) (cW (v + 1) (v + 1)))) B4 (cW (v + 1) (v + 1)) ⟨#[107]⟩ (some ⟨wr.heap.size, 0, none⟩) 1 1 1 ((v : Int) + 1) 0 0 ((v + 2 : Nat) : Int) (v + 2) 0 [] 0 _ HA.out.1 (by omega) (cW_fit (by omega)) HA.out.2 (.cmd (cW_fit (by omega)) cW_ne) (recC_small (cW_fit (by omega)) cW_ne) rfl rfl rfl (show ((v : Int) + 1) = ((v + 1 : Nat) : Int) by push_cast; rfl) rfl rfl (HD.out.1) rfl rfl).mono ?_); rintro e w7 ⟨uo7, uc7, rfl, -, -, B7, hk, hc7, hB7⟩; have hs7 := HSA.out.keep hc7 hB7 (show v ≤ v + 1 by omega); have hS2 := And.intro (And.intro ((heap_cell hs7.heap (c * 4 + 1)).trans HV.out.1) ((heap_cell hs7.heap (c * 4 + 2)).trans HV.out.2.1)) (hc7.cell hSa.2 HV.out.2.2); have H7 := Lib.hid (And.intro hk hs7); clear hk hc7 hB7 hs7))
                go_wp2
                go_roundg (gk - 1)
                case measure => omega
                case rel => exact ⟨j + 1, v + 1, B7, (D4.more (rec (sW (v + 1)) (cW (v + 1) (v + 1)))), n + 1, cs, by omega, by go_num, rfl, by omega, by omega, H7.out.1, H7.out.2, HD.out.2.1, by have := HD.out.2.2; have := HKK.out.2.2.2; omega, by omega⟩
              · have hlt : v < m := by omega
                have HD := Lib.hid (doK_no (d := D4) (wNo m v (by omega)) (by decide))
                go_upto_region 16 with fail
                go_region_held3 (fun wx => (wx.cell? ⟨T, c * 4 + 1, none⟩ = some (.slice (some ⟨vb, vf, none⟩) 1 vcap) ∧ wx.cell? ⟨T, c * 4 + 2, none⟩ = some (.int .u64 ((v : Int) + 1))) ∧ wx.cell? ⟨vb, vf, none⟩ = some (.int .u8 (v : Int)))
                  (first | exact hS0 | exact hSa | exact hS2)
                  (first | (go_at_call 9; (with_reducible refine (do_in w k p n (sW m) (sW m) D4 D4 B4 (cW (v + 1) (v + 1)) ⟨#[107]⟩ (some ⟨wr.heap.size, 0, none⟩) 1 1 1 ((v : Int) + 1) 0 0 0 0 0 [] 13 _ HA.out.1 (by omega) (cW_fit (by omega)) HA.out.2 (.cmd (cW_fit (by omega)) cW_ne) (recC_small (cW_fit (by omega)) cW_ne) rfl rfl rfl (show ((v : Int) + 1) = ((v + 1 : Nat) : Int) by push_cast; rfl) rfl rfl (HD.out) rfl rfl).mono ?_); rintro e w7 ⟨uo7, uc7, rfl, -, -, B7, hk, hc7, hB7⟩; have hs7 := HSA.out.keep hc7 hB7 (show m ≤ m by omega); have hS2 := And.intro (And.intro ((heap_cell hs7.heap (c * 4 + 1)).trans HV.out.1) ((heap_cell hs7.heap (c * 4 + 2)).trans HV.out.2.1)) (hc7.cell hSa.2 HV.out.2.2); have H7 := Lib.hid (And.intro hk hs7); clear hk hc7 hB7 hs7))
                go_wp2
                go_roundg (gk - 1)
                case measure => omega
                case rel => exact ⟨j + 1, m, B7, D4, n + 1, cs, by omega, by go_num, rfl, by omega, by omega, H7.out.1, H7.out.2, HKK.out.2.2.1, by have := HKK.out.2.2.2; omega, by omega⟩
      · have HKK := Lib.hid (And.intro hk (And.intro hs (And.intro hd1 hd2)))
        clear hk hs
        go_wp2
        go_meet
        exact ⟨m, B4, D4, n, cs, rfl, HKK.out.1, HKK.out.2.1, HKK.out.2.2.1, by have := HKK.out.2.2.2; omega, by omega, by omega⟩
  case rest =>
    obtain ⟨m, B4, D4, n, cs, rfl, hk, hs, hd1, hd2, hn, hm⟩ := hcut
    have HKK := Lib.hid hk
    have HLK := Lib.hid (show Tr.lookP (sW m).ps ⟨#[107]⟩ = some ⟨kK, [UInt8.ofNat m], m + 1, 0⟩ from lkK ⟨kK, [UInt8.ofNat m], m + 1, 0⟩ rfl)
    have e5 : IntKind.u64.wrap (m : Int) = (m : Int) := by rw [IntKind.wrap_u64]; omega
    have e6 : IntKind.u64.wrap ((m : Int) + 1) = (m : Int) + 1 := by rw [IntKind.wrap_u64]; omega
    clear hk hs hd1 hd2
    go_upto_region 23 with (go_at_call 10; (with_reducible refine (get_in w k p n (sW m) D4 B4 ⟨#[107]⟩ _ HKK.out).mono ?_); rintro e w6 ⟨bo, bc, rfl, hb, hx6⟩; rw [HLK.out]; have H6 := Lib.hid (And.intro hb (hx6 _ HLK.out)); clear hb hx6; dsimp only [gotV, Nd.val])
    have hT := heap_top w6 (.cells #[.string kK, .slice bo 1 bc, .int .u64 ((m : Int) + 1), .int .u64 0] 39)
    have g1 := heap_cell hT 1
    have g2 := heap_cell hT 2
    obtain ⟨vb, vf, rfl, hvc⟩ := (show Bts _ bo [UInt8.ofNat m] from Bts.below (show Bts w6 bo [UInt8.ofNat m] from H6.out.2.1.bts) ((Below.refl _ w6).alloc (Nat.le_refl _) (.cells #[.string kK, .slice bo 1 bc, .int .u64 ((m : Int) + 1), .int .u64 0] 39))).at (by simp)
    have g3 := hvc 0 (by simp)
    have hv8 : ((UInt8.ofNat m).toNat : Int) = (m : Int) := by have : (UInt8.ofNat m).toNat = m % 256 := UInt8.toNat_ofNat'; omega
    simp only [List.getElem_cons_zero, Nat.add_zero, hv8] at g3
    have hb := H6.out.1.alloc H6.out.1.size (.cells #[.string kK, .slice (some ⟨vb, vf, none⟩) 1 bc, .int .u64 ((m : Int) + 1), .int .u64 0] 39)
    have HB := Lib.hid (HKK.out.below.trans (hb.mono HKK.out.below.size))
    clear hb hT hvc
    go_wp2
    go_ret
    exact ⟨by simp, HB.out⟩
set_option maxRecDepth 100000 in
theorem metaWatch_in (W : World) (base : Nat) (v0 : Value) (k0 : Value.okWide Try.prog W .any base 22 v0) (r0 : Rd Try.prog W 22 v0.cells.toList) :
    Calls Try.prog 3 #[v0] W fun e w' => e = .returned (.bool true) ∧ Below W.heap.size W w' := by
  obtain ⟨ao, bs, c, rfl, h1, h2, h3⟩ := in_bytesC Try.underlying22 Try.underlying5 (by kernel_rfl) k0 r0
  exact metaWatch_any ao _ c bs W rfl h1 (Nat.le_trans h2 h3)
end Go.Proofs.Ytackmgmaippajaa
