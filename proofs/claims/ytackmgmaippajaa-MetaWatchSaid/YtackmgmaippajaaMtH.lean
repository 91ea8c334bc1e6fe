/-
  LAYER 8: the law MetaLeases.
-/
import Derived.Test.YtackmgmaippajaaMtG
import Derived.Deep.CutBlock
namespace Go.Proofs.Ytackmgmaippajaa
open Go Go.RowKit

/-! ### plain -/
def kE : ByteArray := ⟨#[]⟩
def kM : ByteArray := ⟨#[109, 105, 110, 101]⟩
def kO : ByteArray := ⟨#[111, 117, 114, 115]⟩
def pM : Tr.Pl := ⟨kM, [], 1, 1⟩
def pO : Tr.Pl := ⟨kO, [], 1, 0⟩
def sM (L now E : Nat) : St := ⟨now, [pM, pO], 1, [⟨1, E, L⟩]⟩
theorem l1 (L : Nat) (h1 : 1 ≤ L) (h2 : L ≤ 256) : doS St.new ⟨3, kE, [], 0, 0, L⟩ = (⟨0, [], 1, [⟨1, L, L⟩]⟩, 1, [], 0) := by
  have a : ¬ (L = 0 ∨ 1099511627776 < L) := by omega
  have b : ¬ (18446744073709551615 - L < 0) := by omega
  simp [doS, late, Ls.openL, Ls.endsOf, St.new, a, b]
theorem l2 (L : Nat) (h1 : 1 ≤ L) : doS ⟨0, [], 1, [⟨1, L, L⟩]⟩ ⟨1, kM, [], 0, 1, 0⟩ = (⟨0, [pM], 1, [⟨1, L, L⟩]⟩, 1, [], 0) := by
  have a : Ls.liveL [⟨1, L, L⟩] 1 0 = true := by simp [Ls.liveL]; omega
  have b : Tr.putP [] kM [] 0 1 = ([pM], 1, 0) := by rfl
  simp [doS, late, a, b]
theorem l3 (L : Nat) : doS ⟨0, [pM], 1, [⟨1, L, L⟩]⟩ ⟨1, kO, [], 0, 0, 0⟩ = (sM L 0 L, 1, [], 0) := by
  have b : Tr.putP [pM] kO [] 0 0 = ([pM, pO], 1, 0) := by rfl
  simp [doS, late, b, sM]
theorem l4 (L now E t : Nat) (h1 : now + t < E) (h2 : now + t ≤ 1099511627776) : doS (sM L now E) ⟨6, kE, [], 0, 0, t⟩ = (sM L (now + t) E, now + t, [], 0) := by
  have a : min t (1099511627776 - now) = t := by omega
  have b : Ls.expired [⟨1, E, L⟩] (now + t) = [] := by simp [Ls.expired]; omega
  have c : Ls.stays [⟨1, E, L⟩] (now + t) = [⟨1, E, L⟩] := by simp [Ls.stays]; omega
  simp [doS, late, sM, a, b, c, dropAll]
theorem l5 (L now E : Nat) (h1 : now < E) (h2 : now + L ≤ 1099511627776) : doS (sM L now E) ⟨4, kE, [], 0, 1, 0⟩ = (sM L now (max E (now + L)), 0, [], 0) := by
  have a : Ls.liveL [⟨1, E, L⟩] 1 now = true := by simp [Ls.liveL]; omega
  have b : Ls.renewL [⟨1, E, L⟩] 1 now = ([⟨1, max E (now + L), L⟩], 0) := by
    have e : Ls.endsOf now L = now + L := by unfold Ls.endsOf; rw [if_neg (by omega)]
    have g : ¬ E ≤ now := by omega
    simp [Ls.renewL, e, g]
  simp [doS, late, sM, a, b]
theorem l6 (L now E : Nat) : doS (sM L now E) ⟨5, kE, [], 0, 1, 0⟩ = (⟨now, [pO], 1, []⟩, 0, [], 0) := by
  have a : Ls.closeL [⟨1, E, L⟩] 1 = ([], 0) := by simp [Ls.closeL]
  have b : Tr.dropP [pM, pO] 1 = [pO] := by rfl
  simp [doS, late, sM, a, b]
theorem l7 (L now E : Nat) (h1 : E ≤ now + L) (h2 : now + L ≤ 1099511627776) : doS (sM L now E) ⟨6, kE, [], 0, 0, L⟩ = (⟨now + L, [pO], 1, []⟩, now + L, [1], 0) := by
  have a : min L (1099511627776 - now) = L := by omega
  have b : Ls.expired [⟨1, E, L⟩] (now + L) = [1] := by simp [Ls.expired, h1]
  have c : Ls.stays [⟨1, E, L⟩] (now + L) = [] := by simp [Ls.stays, h1]
  have d : Tr.dropP [pM, pO] 1 = [pO] := by rfl
  simp [doS, late, sM, a, b, c, dropAll, d]
theorem l8 (now : Nat) : doS ⟨now, [pO], 1, []⟩ ⟨1, kM, [], 0, 1, 0⟩ = (⟨now, [pO], 1, []⟩, 0, [], 15) := by
  have a : Ls.liveL [] 1 now = false := by rfl
  simp [doS, late, a]
/-- A command without a value. -/
abbrev cm (k : Nat) (key : ByteArray) (want sess ticks : Nat) : Cm := ⟨k, key, [], want, sess, ticks⟩
theorem cm_fit {k want sess ticks : Nat} {key : ByteArray} (h1 : k < 256) (h2 : key.size ≤ 5000) (h3 : want < 18446744073709551616) (h4 : sess < 18446744073709551616) (h5 : ticks < 18446744073709551616) : (cm k key want sess ticks).Fit := ⟨h1, h2, by simp [cm], h3, h4, h5⟩
/-- A command of a law's own keeper that is done, on a disk of room enough. -/
theorem do_ok (w0 : World) (k p n n1 m m1 K : Nat) (s s' : St) (d : Jr.Dsk) (B : List Nat) (kind : Nat) (key KEY : ByteArray) (want sess ticks : Nat) (KI WI SI TI NI : Int) (N M : Nat) (gone : List Nat) (w : World) (h : Kp w0 w k p s d B n) (hn : n < 1000000) (hk : kind < 256) (h7 : kind ≠ 7) (hkey : key.size ≤ K ∧ K ≤ 1000) (hw : want < 18446744073709551616) (hs : sess < 18446744073709551616) (ht : ticks < 18446744073709551616)
    (hd : d.room = 1048576) (hl : d.b.length ≤ m) (hm : m ≤ 1000000) (e1 : KI = (kind : Int)) (e2 : key = KEY) (e4 : WI = (want : Int)) (e5 : SI = (sess : Int)) (e6 : TI = (ticks : Int)) (hr : doS s (cm kind key want sess ticks) = (s', N, gone, 0)) (hN : NI = (N : Int)) (hM : gone.length = M) (hn1 : n + 1 = n1) (hm1 : m + (K + 41) ≤ m1) :
    Calls Try.prog 9 #[.pointer (some ⟨k, 0, none⟩), .agg #[.int .u8 KI, .string KEY, .slice none 0 0, .int .u64 WI, .int .u64 SI, .int .u64 TI]] w fun e w' => ∃ uo uc, e = .returned (.tuple #[.int .u64 NI, .slice uo M uc, .int .i64 0]) ∧ Own w' 1 uo M uc (gone.map Ls.idCell) ∧
      ∃ B' d', Kp w0 w' k p s' d' B' n1 ∧ d'.room = 1048576 ∧ d'.b.length ≤ m1 ∧ Chg (· ∈ B) w w' ∧ ∀ i ∈ B', i ∈ B ∨ w.heap.size ≤ i := by
  subst hn1
  obtain ⟨hkey, hK⟩ := hkey
  have hc := cm_fit (k := kind) (key := key) (want := want) (sess := sess) (ticks := ticks) hk (by omega) hw hs ht
  have hrl := rec_is s' (cm kind key want sess ticks) h7
  have hrl' : (rec s' (cm kind key want sess ticks)).length = key.size + 33 := by rw [hrl]; show 1 + (4 + key.size) + (4 + 0) + 24 = _; omega
  have hdk := doK_ok (d := d) hr (by rw [hrl']; omega) (by rw [hrl', hd]; omega)
  have hml := ml d (rec s' (cm kind key want sess ticks))
  refine (do_in w0 k p n s s' d _ B (cm kind key want sess ticks) KEY none 0 0 KI WI SI TI NI N M gone 0 w h (by omega) hc (Bts.nil _ _) (.cmd hc h7) (recC_small hc h7) e1 e2 rfl e4 e5 e6 hdk hN hM).mono ?_
  rintro e w' ⟨uo, uc, he, ho, _, B', hk', hch, hb'⟩
  exact ⟨uo, uc, he, ho, B', _, hk', hml.1.trans hd, by rw [hml.2, hrl']; omega, hch, hb'⟩
set_option maxHeartbeats 4000000 in
set_option maxRecDepth 100000 in
theorem metaLeases_any (life : Nat) (hlife : life < 256) (co : Option Addr) (N vc : Nat) (bs : List UInt8) (cl : Bool) (w : World) (hN : bs.length = N) (hb : Bts w co bs) (hN2 : N ≤ maxLen) :
    Calls Try.prog 4 #[.int .u8 (life : Int), .slice co N vc, .bool cl] w fun e w' => e = .returned (.bool true) ∧ Below w.heap.size w w' := by
  have HH := Lib.hid (And.intro hN hb)
  obtain ⟨L, hL⟩ : ∃ L, 1 + life = L := ⟨_, rfl⟩
  have e1 : IntKind.u64.wrap (1 + (life : Int)) = (L : Int) := by rw [IntWalk.u64_in _ (by omega)]; omega
  have HL := Lib.hid (show 1 ≤ L ∧ L ≤ 256 by omega)
  unfold maxLen at hN2
  clear hN hb hL
  go_enter Try.func4, Try.ntmps4
  go_upto_region 9 with (first
    | (go_at_call 6; (with_reducible refine (awake _).mono ?_); rintro e w1 ⟨rfl, hb⟩; have H1 := Lib.hid hb; clear hb)
    | (go_at_call 7; (with_reducible refine (disk_in w 1048576 1048576 _ H1.out rfl (by decide)).mono ?_); rintro e w2 ⟨p, rfl, hb, hd, hp⟩; have H2 := Lib.hid (And.intro (H1.out.trans (hb.mono H1.out.size)) (And.intro hd (Nat.le_trans H1.out.size hp))); clear hb hd hp)
    | (go_at_call 8; (with_reducible refine (open_in w p 1048576 0 [p] _ H2.out.2.1 H2.out.1 (fun i hi => by rw [List.mem_singleton] at hi; rw [hi]; exact H2.out.2.2)).mono ?_); rintro e w3 ⟨k, B, rfl, hk, -, -⟩; have H3 := Lib.hid hk; clear hk)
    | (go_at_call 9; (with_reducible refine (do_ok w k p 0 1 0 41 0 St.new _ _ B 3 kE ⟨#[]⟩ 0 0 L 3 0 0 (L : Int) 1 1 0 [] _ H3.out (by decide) (by decide) (by decide) (by decide) (by decide) (by decide) (by have := HL.out; omega) rfl (Nat.le_refl _) (by decide) rfl rfl rfl rfl rfl (l1 L HL.out.1 HL.out.2) rfl rfl rfl (by decide)).mono ?_); rintro e w4 ⟨uo1, uc1, rfl, -, B1, D1, hk, hd1, hd2, -, -⟩; have H4 := Lib.hid (And.intro hk (And.intro hd1 hd2)); clear hk hd1 hd2)
    | (go_at_call 9; (with_reducible refine (do_ok w k p 1 2 41 86 4 _ _ D1 B1 1 kM ⟨#[109, 105, 110, 101]⟩ 0 1 0 1 0 1 0 1 1 0 [] _ H4.out.1 (by decide) (by decide) (by decide) (by decide) (by decide) (by decide) (by decide) H4.out.2.1 H4.out.2.2 (by decide) rfl rfl rfl rfl rfl (l2 L HL.out.1) rfl rfl rfl (by decide)).mono ?_); rintro e w5 ⟨uo2, uc2, rfl, -, B2, D2, hk, hd1, hd2, -, -⟩; have H5 := Lib.hid (And.intro hk (And.intro hd1 hd2)); clear hk hd1 hd2)
    | (go_at_call 9; (with_reducible refine (do_ok w k p 2 3 86 132 5 _ _ D2 B2 1 kO ⟨#[111, 117, 114, 115]⟩ 0 0 0 1 0 0 0 1 1 0 [] _ H5.out.1 (by decide) (by decide) (by decide) (by decide) (by decide) (by decide) (by decide) H5.out.2.1 H5.out.2.2 (by decide) rfl rfl rfl rfl rfl (l3 L) rfl rfl rfl (by decide)).mono ?_); rintro e w6 ⟨uo3, uc3, rfl, -, B3, D3, hk, hd1, hd2, -, -⟩; have H6 := Lib.hid (And.intro hk (And.intro hd1 hd2)); clear hk hd1 hd2))
  go_upto_block 0 with fail
  have HLL := Lib.hid (show (∀ t, t < 300 → t < 18446744073709551616) from fun t h => by omega)
  go_cut [] (fun wx => ∃ now B d n, Kp w wx k p (sM L now (now + L)) d B n ∧ d.room = 1048576 ∧ d.b.length ≤ 10000 ∧ n ≤ 100 ∧ now ≤ 100000)
  case first =>
    go_wp2
    go_loopg [74] N (fun g i wr => ∃ j now B d n, g + j = N ∧ i = .int .i64 (j : Nat) ∧ j ≤ 31 ∧ Kp w wr k p (sM L now (now + L)) d B n ∧ d.room = 1048576 ∧ d.b.length ≤ 200 + 82 * j ∧ n = 3 + 2 * j ∧ now ≤ 256 * j)
    case atStart => exact ⟨0, 0, B3, D3, 3, by omega, rfl, by omega, by rw [Nat.zero_add]; exact H6.out.1, H6.out.2.1, by have := H6.out.2.2; omega, by omega, by omega⟩
    case round =>
      obtain ⟨j, now, B4, D4, n, hgj, rfl, hj, hk, hd1, hd2, rfl, hnow⟩ := hrel
      by_cases hjN : j < N
      · have hji : (j : Int) < (N : Int) := by omega
        have hj0 : (0 : Int) ≤ (j : Int) := by omega
        obtain ⟨b, off, rfl, hcb⟩ := (HH.out.2.below hk.below).at (by rw [HH.out.1]; omega)
        have hjl : j < bs.length := by rw [HH.out.1]; exact hjN
        have c1 := hcb j hjl
        generalize bs[j] = x at *
        clear hcb
        by_cases h30 : 30 < j
        · have h30i : (30 : Int) < (j : Int) := by omega
          have HKK := Lib.hid (And.intro hk (And.intro hd1 hd2))
          clear hk
          go_wp2
          go_meet
          exact ⟨now, B4, D4, 3 + 2 * j, HKK.out.1, HKK.out.2.1, by have := HKK.out.2.2; omega, by omega, by omega⟩
        · have h30i : ¬ (30 : Int) < (j : Int) := by omega
          have hx := x.toNat_lt
          have hLz : ¬ ((L : Int) = 0) := by have := HL.out; omega
          obtain ⟨t, ht⟩ : ∃ t, x.toNat % L = t := ⟨_, rfl⟩
          have htL : t < L := by rw [← ht]; exact Nat.mod_lt _ (by have := HL.out; omega)
          have e2 : ((x.toNat : Int) % (L : Int)) = (t : Int) := by rw [← ht]; omega
          have e3 : IntKind.u64.wrap (x.toNat : Int) = (x.toNat : Int) := IntWalk.u64_in _ (by omega)
          have htb := HL.out.2
          have hK4 := Lib.hid (l4 L now (now + L) t (by omega) (by omega))
          have hK5 := Lib.hid (l5 L (now + t) (now + L) (by omega) (by omega))
          have hmx : max (now + L) (now + t + L) = now + t + L := by omega
          rw [hmx] at hK5
          have HKK := Lib.hid (And.intro hk (And.intro hd1 hd2))
          clear hk ht hmx
          go_wp2_with (first
            | (go_at_call 9; (with_reducible refine (do_ok w k p (3 + 2 * j) (4 + 2 * j) (200 + 82 * j) (241 + 82 * j) 0 _ _ D4 B4 6 kE ⟨#[]⟩ 0 0 t 6 0 0 (t : Int) ((now + t : Nat) : Int) (now + t) 0 [] _ HKK.out.1 (by omega) (by decide) (by decide) (by decide) (by decide) (by decide) (by omega) HKK.out.2.1 HKK.out.2.2 (by omega) rfl rfl rfl rfl rfl hK4.out rfl rfl (by omega) (by omega)).mono ?_); rintro e w7 ⟨uo4, uc4, rfl, -, B5, D5, hk, hd1, hd2, -, -⟩; have H7 := Lib.hid (And.intro hk (And.intro hd1 hd2)); clear hk hd1 hd2)
            | (go_at_call 9; (with_reducible refine (do_ok w k p (4 + 2 * j) (5 + 2 * j) (241 + 82 * j) (282 + 82 * j) 0 _ _ D5 B5 4 kE ⟨#[]⟩ 0 1 0 4 0 1 0 0 0 0 [] _ H7.out.1 (by omega) (by decide) (by decide) (by decide) (by decide) (by decide) (by decide) H7.out.2.1 H7.out.2.2 (by omega) rfl rfl rfl rfl rfl hK5.out rfl rfl (by omega) (by omega)).mono ?_); rintro e w8 ⟨uo5, uc5, rfl, -, B6, D6, hk, hd1, hd2, -, -⟩; have H8 := Lib.hid (And.intro hk (And.intro hd1 hd2)); clear hk hd1 hd2))
          go_roundg (gk - 1)
          case measure => omega
          case rel => exact ⟨j + 1, now + t, B6, D6, 3 + 2 * (j + 1), by omega, by go_num, by omega, by rw [show 3 + 2 * (j + 1) = 5 + 2 * j by omega]; exact H8.out.1, H8.out.2.1, by have := H8.out.2.2; omega, rfl, by omega⟩
      · have HKK := Lib.hid (And.intro hk (And.intro hd1 hd2))
        clear hk
        go_wp2
        go_meet
        exact ⟨now, B4, D4, 3 + 2 * j, HKK.out.1, HKK.out.2.1, by have := HKK.out.2.2; omega, by omega, by omega⟩
  case rest =>
    obtain ⟨now, B4, D4, n, hk, hd1, hd2, hn, hnow⟩ := hcut
    have HKK := Lib.hid (And.intro hk (And.intro hd1 hd2))
    have hg1 : Tr.lookP [pM, pO] ⟨#[109, 105, 110, 101]⟩ = some pM := by rfl
    have hg2 : Tr.lookP [pO] ⟨#[109, 105, 110, 101]⟩ = none := by rfl
    have hg3 : Tr.lookP [pO] ⟨#[111, 117, 114, 115]⟩ = some pO := by rfl
    have HG := Lib.hid (And.intro hg1 (And.intro hg2 hg3))
    clear hk hd1 hd2 hg1 hg2 hg3
    go_upto_region 19 with (go_at_call 10; (with_reducible refine (get_in w k p n (sM L now (now + L)) D4 B4 ⟨#[109, 105, 110, 101]⟩ _ HKK.out.1).mono ?_); rintro e w9 ⟨bo9, bc9, rfl, hb, -⟩; rw [show (sM L now (now + L)).ps = [pM, pO] from rfl, HG.out.1]; have H9 := Lib.hid hb; clear hb; dsimp only [gotV, Nd.val, pM])
    have hk9 := HKK.out.1.stays (H9.out.alloc H9.out.size (.cells #[.string kM, .slice bo9 0 bc9, .int .u64 1, .int .u64 1] 39))
    generalize w9.alloc (.cells #[.string kM, .slice bo9 0 bc9, .int .u64 1, .int .u64 1] 39) = w10 at *
    have H10 := Lib.hid hk9
    clear hk9
    cases cl with
    | true =>
      have hK6 := Lib.hid (l6 L now (now + L))
      go_upto_region 22 with (go_at_call 9; (with_reducible refine (do_ok w k p n (n + 1) 10000 10041 0 _ _ D4 B4 5 kE ⟨#[]⟩ 0 1 0 5 0 1 0 0 0 0 [] _ H10.out (by omega) (by decide) (by decide) (by decide) (by decide) (by decide) (by decide) HKK.out.2.1 HKK.out.2.2 (by decide) rfl rfl rfl rfl rfl hK6.out rfl rfl rfl (by decide)).mono ?_); rintro e w11 ⟨uo7, uc7, rfl, -, B7, D7, hk, hd1, hd2, -, -⟩; have H11 := Lib.hid (And.intro hk (And.intro hd1 hd2)); clear hk hd1 hd2)
      go_wp2_with (first
        | (go_at_call 10; (with_reducible refine (get_in w k p _ ⟨now, [pO], 1, []⟩ _ _ ⟨#[109, 105, 110, 101]⟩ _ H11.out.1).mono ?_); rintro e w12 ⟨bo12, bc12, rfl, hb, -⟩; rw [show (St.mk (now) [pO] 1 []).ps = [pO] from rfl, HG.out.2.1]; have H12 := Lib.hid (H11.out.1.stays (hb.alloc hb.size (.cells #[.string ⟨#[]⟩, .slice none 0 0, .int .u64 0, .int .u64 0] 39))); clear hb; dsimp only [gotV, Tr.zeroNd])
        | (go_at_call 10; (with_reducible refine (get_in w k p _ ⟨now, [pO], 1, []⟩ _ _ ⟨#[111, 117, 114, 115]⟩ _ H12.out).mono ?_); rintro e w13 ⟨bo13, bc13, rfl, hb, -⟩; rw [show (St.mk (now) [pO] 1 []).ps = [pO] from rfl, HG.out.2.2]; have H13 := Lib.hid (H12.out.stays (hb.alloc hb.size (.cells #[.string kO, .slice bo13 0 bc13, .int .u64 1, .int .u64 0] 39))); clear hb; dsimp only [gotV, Nd.val, pO])
        | (go_at_call 9; (with_reducible refine (do_in w k p _ ⟨now, [pO], 1, []⟩ ⟨now, [pO], 1, []⟩ D7 D7 B7 (cm 1 kM 0 1 0) ⟨#[109, 105, 110, 101]⟩ none 0 0 1 0 1 0 0 0 0 [] 15 _ H13.out (by omega) (cm_fit (by decide) (by decide) (by decide) (by decide) (by decide)) (Bts.nil _ _) (.cmd (cm_fit (by decide) (by decide) (by decide) (by decide) (by decide)) (by decide)) (recC_small (cm_fit (by decide) (by decide) (by decide) (by decide) (by decide)) (by decide)) rfl rfl rfl rfl rfl rfl (doK_no (l8 _) (by decide)) rfl rfl).mono ?_); rintro e w14 ⟨uo14, uc14, rfl, -, -, B14, hk, -, -⟩; have H14 := Lib.hid hk; clear hk)
        | (go_at_call 11; (with_reducible refine (live_in w k p _ 1 1 ⟨now, [pO], 1, []⟩ D7 B14 _ H14.out rfl).mono ?_); rintro e w15 ⟨rfl, hb⟩; rw [show Ls.liveL (St.mk (now) [pO] 1 []).l 1 (St.mk (now) [pO] 1 []).now = false from rfl]; have H15 := Lib.hid hb; clear hb))
      go_ret
      exact ⟨rfl, H14.out.below.trans (H15.out.mono H14.out.below.size)⟩
    | false =>
      have hL2 := HL.out
      have hK7 := Lib.hid (l7 L now (now + L) (Nat.le_refl _) (by omega))
      go_upto_region 22 with (go_at_call 9; (with_reducible refine (do_ok w k p n (n + 1) 10000 10041 0 _ _ D4 B4 6 kE ⟨#[]⟩ 0 0 L 6 0 0 (L : Int) ((now + L : Nat) : Int) (now + L) 1 [1] _ H10.out (by omega) (by decide) (by decide) (by decide) (by decide) (by decide) (by omega) HKK.out.2.1 HKK.out.2.2 (by decide) rfl rfl rfl rfl rfl hK7.out rfl rfl rfl (by decide)).mono ?_); rintro e w11 ⟨uo7, uc7, rfl, -, B7, D7, hk, hd1, hd2, -, -⟩; have H11 := Lib.hid (And.intro hk (And.intro hd1 hd2)); clear hk hd1 hd2)
      go_wp2_with (first
        | (go_at_call 10; (with_reducible refine (get_in w k p _ ⟨now + L, [pO], 1, []⟩ _ _ ⟨#[109, 105, 110, 101]⟩ _ H11.out.1).mono ?_); rintro e w12 ⟨bo12, bc12, rfl, hb, -⟩; rw [show (St.mk (now + L) [pO] 1 []).ps = [pO] from rfl, HG.out.2.1]; have H12 := Lib.hid (H11.out.1.stays (hb.alloc hb.size (.cells #[.string ⟨#[]⟩, .slice none 0 0, .int .u64 0, .int .u64 0] 39))); clear hb; dsimp only [gotV, Tr.zeroNd])
        | (go_at_call 10; (with_reducible refine (get_in w k p _ ⟨now + L, [pO], 1, []⟩ _ _ ⟨#[111, 117, 114, 115]⟩ _ H12.out).mono ?_); rintro e w13 ⟨bo13, bc13, rfl, hb, -⟩; rw [show (St.mk (now + L) [pO] 1 []).ps = [pO] from rfl, HG.out.2.2]; have H13 := Lib.hid (H12.out.stays (hb.alloc hb.size (.cells #[.string kO, .slice bo13 0 bc13, .int .u64 1, .int .u64 0] 39))); clear hb; dsimp only [gotV, Nd.val, pO])
        | (go_at_call 9; (with_reducible refine (do_in w k p _ ⟨now + L, [pO], 1, []⟩ ⟨now + L, [pO], 1, []⟩ D7 D7 B7 (cm 1 kM 0 1 0) ⟨#[109, 105, 110, 101]⟩ none 0 0 1 0 1 0 0 0 0 [] 15 _ H13.out (by omega) (cm_fit (by decide) (by decide) (by decide) (by decide) (by decide)) (Bts.nil _ _) (.cmd (cm_fit (by decide) (by decide) (by decide) (by decide) (by decide)) (by decide)) (recC_small (cm_fit (by decide) (by decide) (by decide) (by decide) (by decide)) (by decide)) rfl rfl rfl rfl rfl rfl (doK_no (l8 _) (by decide)) rfl rfl).mono ?_); rintro e w14 ⟨uo14, uc14, rfl, -, -, B14, hk, -, -⟩; have H14 := Lib.hid hk; clear hk)
        | (go_at_call 11; (with_reducible refine (live_in w k p _ 1 1 ⟨now + L, [pO], 1, []⟩ D7 B14 _ H14.out rfl).mono ?_); rintro e w15 ⟨rfl, hb⟩; rw [show Ls.liveL (St.mk (now + L) [pO] 1 []).l 1 (St.mk (now + L) [pO] 1 []).now = false from rfl]; have H15 := Lib.hid hb; clear hb))
      go_ret
      exact ⟨rfl, H14.out.below.trans (H15.out.mono H14.out.below.size)⟩
set_option maxRecDepth 100000 in
theorem metaLeases_in (W : World) (base : Nat) (v0 v1 v2 : Value) (k0 : Value.okWide Try.prog W .any base 5 v0) (k1 : Value.okWide Try.prog W .any base 22 v1) (k2 : Value.okWide Try.prog W .any base 4 v2) (r0 : Rd Try.prog W 5 v0.cells.toList) (r1 : Rd Try.prog W 22 v1.cells.toList) (r2 : Rd Try.prog W 4 v2.cells.toList) :
    Calls Try.prog 4 #[v0, v1, v2] W fun e w' => e = .returned (.bool true) ∧ Below W.heap.size W w' := by
  obtain ⟨x, rfl⟩ := in_u8 Try.underlying5 k0 r0
  obtain ⟨ao, bs, c, rfl, h1, h2, h3⟩ := in_bytesC Try.underlying22 Try.underlying5 (by kernel_rfl) k1 r1
  obtain ⟨b, rfl⟩ := in_bool Try.underlying4 k2
  exact metaLeases_any x.toNat x.toNat_lt ao _ c bs b W rfl h1 (Nat.le_trans h2 h3)
end Go.Proofs.Ytackmgmaippajaa
