/-
  LAYER 8: a law's own keeper; the law's Awake.
-/
import Derived.Test.YtackmgmaippajaaGreatMtE
import Derived.Test.YtackmgmaippajaaGreatMtQ
namespace Go.Proofs.YtackmgmaippajaaGreat
open Go Go.RowKit

/-- A keeper that was made behind w0: all its blocks are in B. -/
structure Kp (w0 w : World) (k p : Nat) (s : St) (d : Jr.Dsk) (B : List Nat) (n : Nat) : Prop where
  at_ : ∃ kp bp j F1 F2 G, KeepAt w k p s d kp bp j F1 F2 G ∧ ∀ i ∈ keepB k j F1 F2 G, i ∈ B
  new : ∀ i ∈ B, w0.heap.size ≤ i
  lt : ∀ i ∈ B, i < w.heap.size
  below : Below w0.heap.size w0 w
  fit : s.Fit n
theorem Kp.keep {w0 w w' : World} {k p n : Nat} {s : St} {d : Jr.Dsk} {B : List Nat} (h : Kp w0 w k p s d B n) {S : Nat → Prop} (hc : Chg S w w') (hS : ∀ i ∈ B, ¬ S i) (hb : ∀ i, S i → w0.heap.size ≤ i) : Kp w0 w' k p s d B n := by
  obtain ⟨kp, bp, j, F1, F2, G, h1, h2⟩ := h.at_
  refine ⟨⟨kp, bp, j, F1, F2, G, h1.keep hc (hS _ (h2 _ (by simp [keepB]))) (fun i hi => hS _ (h2 _ (by simp [keepB, hi]))) (fun i hi => hS _ (h2 _ (by simp [keepB, hi]))) (fun i hi => hS _ (h2 _ (by simp [keepB, hi]))) (hS _ (h2 _ (by simp [keepB]))), h2⟩, h.new, fun i hi => Nat.lt_of_lt_of_le (h.lt i hi) hc.size, h.below.trans (hc.below h.below.size hb), h.fit⟩
theorem Kp.stays {w0 w w' : World} {k p n : Nat} {s : St} {d : Jr.Dsk} {B : List Nat} (h : Kp w0 w k p s d B n) (hb : Below w.heap.size w w') : Kp w0 w' k p s d B n := by
  obtain ⟨kp, bp, j, F1, F2, G, h1, h2⟩ := h.at_
  exact ⟨⟨kp, bp, j, F1, F2, G, h1.stays hb, h2⟩, h.new, fun i hi => Nat.lt_of_lt_of_le (h.lt i hi) hb.size, h.below.trans (hb.mono h.below.size), h.fit⟩
def Jr.Dsk.more (d : Jr.Dsk) (x : List UInt8) : Jr.Dsk := ⟨d.room, (d.b ++ frame x).length, d.b ++ frame x⟩
theorem doK_ok {s s' : St} {d : Jr.Dsk} {c : Cm} {n : Nat} {gone : List Nat} (h : doS s c = (s', n, gone, 0)) (h1 : (rec s' c).length ≤ 4096) (h2 : (rec s' c).length + 8 ≤ d.room - d.b.length) : doK s d c = ((s', d.more (rec s' c)), n, gone, 0) := by
  unfold doK
  rw [h]
  simp only
  rw [if_neg (fun h => h rfl), if_neg (by omega), if_neg (by omega)]
  rfl
theorem doK_no {s s' : St} {d : Jr.Dsk} {c : Cm} {n : Nat} {gone : List Nat} {code : Int} (h : doS s c = (s', n, gone, code)) (h0 : code ≠ 0) : doK s d c = ((s, d), 0, [], code) := by
  unfold doK
  rw [h]
  exact if_pos h0
theorem doK_fit {s : St} {d : Jr.Dsk} {c : Cm} {n : Nat} (h : s.Fit n) (hn : n < 9223372036854775807) (hc : c.Fit) : (doK s d c).1.1.Fit (n + 1) := by
  have hup : s.Fit (n + 1) := ⟨h.fine, h.nice.up (Nat.le_succ n), h.now, h.last, h.len, h.ids, h.ends⟩
  unfold doK
  split
  · exact hup
  split
  · exact hup
  split
  · exact hup
  · exact h.did hn hc
theorem do_in (w0 : World) (k p n : Nat) (s s' : St) (d d' : Jr.Dsk) (B : List Nat) (c : Cm) (KEY : ByteArray) (vo : Option Addr) (VL vc : Nat) (KI WI SI TI NI : Int) (N M : Nat) (gone : List Nat) (code : Int) (w : World) (h : Kp w0 w k p s d B n) (hn : n < 9223372036854775807) (hc : c.Fit) (hv : Bts w vo c.val)
    (hR : RecOk (doS s c).1 c) (hlen : (rec (doS s c).1 c).length ≤ 1000000) (e1 : KI = (c.kind : Int)) (e2 : c.key = KEY) (e3 : c.val.length = VL) (e4 : WI = (c.want : Int)) (e5 : SI = (c.sess : Int)) (e6 : TI = (c.ticks : Int)) (hr : doK s d c = ((s', d'), N, gone, code)) (hN : NI = (N : Int)) (hM : gone.length = M) :
    Calls Tryz.prog 18 #[.pointer (some ⟨k, 0, none⟩), .agg #[.int .u8 KI, .string KEY, .slice vo VL vc, .int .u64 WI, .int .u64 SI, .int .u64 TI]] w fun e w' => ∃ uo uc, e = .returned (.tuple #[.int .u64 NI, .slice uo M uc, .int .i64 code]) ∧ Own w' 1 uo M uc (gone.map Ls.idCell) ∧ (∀ a, uo = some a → w.heap.size ≤ a.block) ∧
      ∃ B', Kp w0 w' k p s' d' B' (n + 1) ∧ Chg (· ∈ B) w w' ∧ ∀ i ∈ B', i ∈ B ∨ w.heap.size ≤ i := by
  subst e1 e2 e3 e4 e5 e6 hN hM
  have hf := doK_fit (d := d) h.fit hn hc
  obtain ⟨kp, bp, j, F1, F2, G, h1, h2⟩ := h.at_
  refine (keeper_do k p kp bp j s d F1 F2 G c vo vc w0 w h1 h.fit.ok hc hv hR hlen).mono ?_
  rintro e w' ⟨uo, uc, rfl, ho, hx, ⟨kp', bp', j', F1', F2', G', hk', hb'⟩, hch⟩
  rw [hr] at hk' ho hf ⊢
  have hch' : Chg (· ∈ B) w w' := hch.to h2
  refine ⟨uo, uc, rfl, ho, hx, keepB k j' F1' F2' G', ⟨⟨kp', bp', j', F1', F2', G', hk', fun _ h => h⟩, fun i hi => ?_, hk'.lt, h.below.trans (hch'.below h.below.size h.new), hf⟩, hch', fun i hi => (hb' i hi).imp (h2 i) id⟩
  rcases hb' i hi with hi | hi
  · exact h.new i (h2 i hi)
  · exact Nat.le_trans h.below.size hi
theorem recC_small {s : St} {c : Cm} (hc : c.Fit) (hk : c.kind ≠ 7) : (rec s c).length ≤ 1000000 := by
  unfold rec
  rw [if_neg hk, recC_len]
  have := hc.key
  have := hc.val
  omega
theorem get_in (w0 : World) (k p n : Nat) (s : St) (d : Jr.Dsk) (B : List Nat) (key : ByteArray) (w : World) (h : Kp w0 w k p s d B n) :
    Calls Tryz.prog 24 #[.pointer (some ⟨k, 0, none⟩), .string key] w fun r w' => ∃ bo bc, r = .returned (gotV (Tr.lookP s.ps key) bo bc) ∧ Below w.heap.size w w' ∧ ∀ x, Tr.lookP s.ps key = some x → Own w' 1 bo x.body.length bc (x.body.map cb) ∧ ∀ a, bo = some a → w.heap.size ≤ a.block := by
  obtain ⟨kp, bp, j, F1, F2, G, h1, h2⟩ := h.at_
  exact keeper_get k p kp bp j s d F1 F2 G key w h1 h.fit.fine
theorem live_in (w0 : World) (k p n id : Nat) (ID : Int) (s : St) (d : Jr.Dsk) (B : List Nat) (w : World) (h : Kp w0 w k p s d B n) (hI : ID = (id : Int)) :
    Calls Tryz.prog 52 #[.pointer (some ⟨k, 0, none⟩), .int .u64 ID] w fun e w' => e = .returned (.bool (Ls.liveL s.l id s.now)) ∧ Below w.heap.size w w' := by
  subst hI
  obtain ⟨kp, bp, j, F1, F2, G, h1, h2⟩ := h.at_
  exact keeper_live k p kp bp j id s d F1 F2 G w h1 (Nat.le_trans h.fit.len (by decide))
theorem open_in (w0 : World) (p R n : Nat) (F : List Nat) (w : World) (h : Jr.DiskAt 102 w p ⟨R, 0, []⟩ F) (hb : Below w0.heap.size w0 w) (hF : ∀ i ∈ F, w0.heap.size ≤ i) :
    Calls Tryz.prog 14 #[.pointer (some ⟨p, 0, none⟩)] w fun e w' => ∃ k B, e = .returned (.tuple #[.pointer (some ⟨k, 0, none⟩), .int .i64 0]) ∧ Kp w0 w' k p St.new ⟨R, 0, []⟩ B n ∧ Chg (· ∈ F) w w' ∧ ∀ i ∈ B, i ∈ F ∨ w.heap.size ≤ i := by
  refine (open_empty p R F w h).mono ?_
  rintro e w' ⟨k, kp, bp, j, F1, F2, G, he, hk, hc, hi⟩
  refine ⟨k, keepB k j F1 F2 G, he, ⟨⟨kp, bp, j, F1, F2, G, hk, fun _ h => h⟩, fun i hi2 => ?_, hk.lt, hb.trans (hc.below hb.size hF), St.Fit.new n⟩, hc, hi⟩
  rcases hi i hi2 with h | h
  · exact hF i h
  · exact Nat.le_trans hb.size h
/-- A disk that is made. -/
theorem disk_in (w0 : World) (R : Nat) (RI : Int) (w : World) (_hb : Below w0.heap.size w0 w) (hRI : RI = (R : Int)) (hR : R ≤ 16777216) :
    Calls Tryz.prog 13 #[.int .i64 RI] w fun e w' => ∃ p, e = .returned (.tuple #[.pointer (some ⟨p, 0, none⟩), .int .i64 0]) ∧ Below w.heap.size w w' ∧ Jr.DiskAt 102 w' p ⟨R, 0, []⟩ [p] ∧ w.heap.size ≤ p := by
  subst hRI
  refine (Jr.new_any (R : Int) w ⟨by omega, by omega⟩).mono ?_
  rintro e w' ⟨rfl, h1, h2⟩
  exact ⟨_, rfl, h1, by simpa using h2, Nat.le_refl _⟩
/-! ### Awake -/
def kA : ByteArray := ⟨#[97]⟩
def cO : Cm := ⟨3, ⟨#[]⟩, [], 0, 0, 10⟩
def cP : Cm := ⟨1, kA, [], 0, 1, 0⟩
def cT : Cm := ⟨6, ⟨#[]⟩, [], 0, 0, 10⟩
def s1 : St := ⟨0, [], 1, [⟨1, 10, 10⟩]⟩
def s2 : St := ⟨0, [⟨kA, [], 1, 1⟩], 1, [⟨1, 10, 10⟩]⟩
def s3 : St := ⟨10, [], 1, []⟩
theorem cO_fit : cO.Fit := ⟨by decide, by decide, by decide, by decide, by decide, by decide⟩
theorem cP_fit : cP.Fit := ⟨by decide, by decide, by decide, by decide, by decide, by decide⟩
theorem cT_fit : cT.Fit := ⟨by decide, by decide, by decide, by decide, by decide, by decide⟩
theorem d1 : doS St.new cO = (s1, 1, [], 0) := by rfl
theorem d2 : doS s1 cP = (s2, 1, [], 0) := by rfl
theorem d3 : doS s2 cT = (s3, 10, [1], 0) := by rfl
theorem ml (d : Jr.Dsk) (x : List UInt8) : (d.more x).room = d.room ∧ (d.more x).b.length = d.b.length + (x.length + 8) := by
  refine ⟨rfl, ?_⟩
  show (d.b ++ frame x).length = _
  rw [List.length_append, frame_len]
theorem rec_is (s : St) (c : Cm) (hk : c.kind ≠ 7) : (rec s c).length = 1 + (4 + c.key.size) + (4 + c.val.length) + 24 := by unfold rec; rw [if_neg hk, recC_len]
set_option maxHeartbeats 4000000 in
set_option maxRecDepth 100000 in
theorem awake (w : World) : Calls Tryz.prog 7 #[] w fun e w' => e = .returned (.bool true) ∧ Below w.heap.size w w' := by
  have HR1 := Lib.hid (rec_is s1 cO (by decide))
  have HR2 := Lib.hid (rec_is s2 cP (by decide))
  have HR3 := Lib.hid (rec_is s3 cT (by decide))
  obtain ⟨D1, hD1⟩ : ∃ D1, (Jr.Dsk.more ⟨1000, 0, []⟩ (rec s1 cO)) = D1 := ⟨_, rfl⟩
  obtain ⟨D2, hD2⟩ : ∃ D2, D1.more (rec s2 cP) = D2 := ⟨_, rfl⟩
  obtain ⟨D3, hD3⟩ : ∃ D3, D2.more (rec s3 cT) = D3 := ⟨_, rfl⟩
  have k1 : doK St.new ⟨1000, 0, []⟩ cO = ((s1, D1), 1, [], 0) := by
    rw [← hD1]
    exact doK_ok d1 (by rw [HR1.out]; decide) (by rw [HR1.out]; decide)
  have m1 : D1.room = 1000 ∧ D1.b.length = 41 := by
    have := ml ⟨1000, 0, []⟩ (rec s1 cO)
    rw [hD1, HR1.out] at this
    exact this
  have k2 : doK s1 D1 cP = ((s2, D2), 1, [], 0) := by
    rw [← hD2]
    exact doK_ok d2 (by rw [HR2.out]; decide) (by rw [HR2.out, m1.1, m1.2]; decide)
  have m2 : D2.room = 1000 ∧ D2.b.length = 83 := by
    have := ml D1 (rec s2 cP)
    rw [hD2, HR2.out, m1.1, m1.2] at this
    exact this
  have k3 : doK s2 D2 cT = ((s3, D3), 10, [1], 0) := by
    rw [← hD3]
    exact doK_ok d3 (by rw [HR3.out]; decide) (by rw [HR3.out, m2.1, m2.2]; decide)
  have HK := Lib.hid (And.intro k1 (And.intro k2 k3))
  clear k1 k2 k3 m1 m2 hD1 hD2 hD3
  go_enter Tryz.func7, Tryz.ntmps7
  go_wp2_with (first
    | (go_at_call 13; (with_reducible refine (disk_in w 1000 1000 _ (Below.refl _ _) rfl (by decide)).mono ?_); rintro e w1 ⟨p, rfl, hb, hd, hp⟩; have H1 := Lib.hid (And.intro hb (And.intro hd hp)); clear hb hd hp)
    | (go_at_call 14; (with_reducible refine (open_in w p 1000 0 [p] _ H1.out.2.1 H1.out.1 (fun i hi => by rw [List.mem_singleton] at hi; rw [hi]; exact H1.out.2.2)).mono ?_); rintro e w2 ⟨k, B, rfl, hk, -, -⟩; have H2 := Lib.hid hk; clear hk)
    | (go_at_call 18; (with_reducible refine (do_in w k p 0 St.new s1 _ D1 B cO ⟨#[]⟩ none 0 0 3 0 0 10 1 1 0 [] 0 _ H2.out (by decide) cO_fit (Bts.nil _ _) (.cmd cO_fit (by decide)) (recC_small cO_fit (by decide)) rfl rfl rfl rfl rfl rfl HK.out.1 rfl rfl).mono ?_); rintro e w3 ⟨uo1, uc1, rfl, -, -, B1, hk, -, -⟩; have H3 := Lib.hid hk; clear hk)
    | (go_at_call 18; (with_reducible refine (do_in w k p 1 s1 s2 _ D2 B1 cP ⟨#[97]⟩ none 0 0 1 0 1 0 1 1 0 [] 0 _ H3.out (by decide) cP_fit (Bts.nil _ _) (.cmd cP_fit (by decide)) (recC_small cP_fit (by decide)) rfl rfl rfl rfl rfl rfl HK.out.2.1 rfl rfl).mono ?_); rintro e w4 ⟨uo2, uc2, rfl, -, -, B2, hk, -, -⟩; have H4 := Lib.hid hk; clear hk)
    | (go_at_call 18; (with_reducible refine (do_in w k p 2 s2 s3 _ D3 B2 cT ⟨#[]⟩ none 0 0 6 0 0 10 10 10 1 [1] 0 _ H4.out (by decide) cT_fit (Bts.nil _ _) (.cmd cT_fit (by decide)) (recC_small cT_fit (by decide)) rfl rfl rfl rfl rfl rfl HK.out.2.2 rfl rfl).mono ?_); rintro e w5 ⟨uo, uc, rfl, ho, hx, B3, hk, -, hB3⟩; obtain ⟨bb, off, rfl, hc5⟩ := Ls.id_at ho (k := 0) (x := 1) rfl; simp only [Nat.add_zero] at hc5; have H5 := Lib.hid (And.intro hk ho); clear hk ho hx hB3)
    | (go_at_call 24; (with_reducible refine (get_in w k p 3 s3 D3 B3 ⟨#[97]⟩ _ H5.out.1).mono ?_); rintro e w6 ⟨bo, bc, rfl, hb, -⟩; dsimp only [gotV, s3, Tr.lookP, Tr.zeroNd]; have hc6 := (Chg.of_below hb (fun _ => False)).cell hc5 (fun h => h); have hc7 := alloc_cell (o := .cells #[.string ⟨#[]⟩, .slice none 0 0, .int .u64 0, .int .u64 0] 78) hc6; have H6 := Lib.hid hb; clear hb))
  go_ret
  exact ⟨rfl, (H5.out.1.below.trans (H6.out.mono H5.out.1.below.size)).alloc (Nat.le_trans H5.out.1.below.size H6.out.size) _⟩
end Go.Proofs.YtackmgmaippajaaGreat
