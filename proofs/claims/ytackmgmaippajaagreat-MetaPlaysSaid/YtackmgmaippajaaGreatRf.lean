/-
  LAYER 8: the law MetaPlays.
-/
import Derived.Test.YtackmgmaippajaaGreatRe
import Derived.Test.YtackmgmaippajaaGreatMtZb
import Derived.Test.YtackmgmaippajaaGreatMtRa
namespace Go.Proofs.YtackmgmaippajaaGreat
open Go Go.RowKit

/-- A disk on which a state's records stand, all sure. -/
def PlI (s : St) (d : Jr.Dsk) (M : Nat) : Prop := ∃ L, d.b = Jr.frames L ∧ d.sure = d.b.length ∧ (∀ x ∈ L, x.length ≤ 4096) ∧ rplAll St.new L = some s ∧ d.b.length ≤ M * 4104
theorem PlI.nil (R : Nat) : PlI St.new ⟨R, 0, []⟩ 0 := ⟨[], rfl, rfl, fun _ h => (List.not_mem_nil h).elim, rfl, Nat.zero_le _⟩
theorem PlI.up {s : St} {d : Jr.Dsk} {M N : Nat} (h : PlI s d M) (hm : M ≤ N) : PlI s d N := by
  obtain ⟨L, h1, h2, h3, h4, h5⟩ := h
  exact ⟨L, h1, h2, h3, h4, Nat.le_trans h5 (Nat.mul_le_mul_right _ hm)⟩
theorem PlI.do {s : St} {d : Jr.Dsk} {M : Nat} {c : Cm} (h : PlI s d M) (hs : s.Ok) (hc : c.Fit) : PlI (doK s d c).1.1 (doK s d c).1.2 (M + 1) := by
  have hup := h.up (Nat.le_succ M)
  obtain ⟨L, h1, h2, h3, h4, h5⟩ := h
  unfold doK
  by_cases h0 : (doS s c).2.2.2 = 0
  · rw [if_neg (fun h => h h0)]
    by_cases hl : 4096 < (rec (doS s c).1 c).length
    · rw [if_pos hl]; exact hup
    · rw [if_neg hl]
      split
      · exact hup
      · refine ⟨L ++ [rec (doS s c).1 c], ?_, rfl, fun x hx => ?_, ?_, ?_⟩
        · show d.b ++ frame _ = _
          rw [Jr.frames_app, Jr.frames_one, h1]
        · rcases List.mem_append.1 hx with hx | hx
          · exact h3 x hx
          · rw [List.mem_singleton] at hx; rw [hx]; omega
        · rw [rplAll_app, h4]
          simp only [rplAll, rpl_rec hs hc h0]
        · show (d.b ++ frame _).length ≤ _
          rw [List.length_append, frame_len, Nat.add_mul]
          omega
  · rw [if_pos h0]; exact hup
theorem PlI.recs {s : St} {d : Jr.Dsk} {M : Nat} (h : PlI s d M) : ∃ L, Jr.Recs d.b L [] ∧ rplAll St.new L = some s ∧ (⟨d.room, (Jr.frames L).length, Jr.frames L⟩ : Jr.Dsk) = d := by
  obtain ⟨L, h1, h2, h3, h4, h5⟩ := h
  refine ⟨L, ⟨by rw [h1, List.append_nil], h3, by simp [unf]⟩, h4, ?_⟩
  obtain ⟨room, sure, b⟩ := d
  dsimp only at h1 h2 ⊢
  rw [h2, h1]
theorem PlI.crash {s : St} {d : Jr.Dsk} {M : Nat} (h : PlI s d M) (keep bit : Int) : d.crash keep bit = d := by
  obtain ⟨L, h1, h2, h3, h4, h5⟩ := h
  have hu : d.upto keep = d.b.length := by unfold Jr.Dsk.upto; omega
  unfold Jr.Dsk.crash
  rw [hu, if_neg (by omega), List.take_length]
  obtain ⟨room, sure, b⟩ := d
  dsimp only at h2 ⊢
  rw [h2]
/-- The document's keeper, made anew. -/
theorem rp_new (w0 w3 : World) (R : Nat) (hR : R ≤ 16777216) (hb : Below w0.heap.size w0 w3) :
    Rp w0 ((w3.alloc (.cells #[.int .i64 (R : Int), .int .i64 0, .slice none 0 0] 72)).alloc (.cells #[.int .u64 0, .slice none 0 0, .int .u64 0, .slice none 0 0, .pointer (some ⟨w3.heap.size, 0, none⟩)] 74)) (w3.heap.size + 1) w3.heap.size St.new ⟨R, 0, []⟩ [w3.heap.size, w3.heap.size + 1] := by
  have h1 := heap_top w3 (.cells #[.int .i64 (R : Int), .int .i64 0, .slice none 0 0] 72)
  have h2 := heap_top (w3.alloc (.cells #[.int .i64 (R : Int), .int .i64 0, .slice none 0 0] 72)) (.cells #[.int .u64 0, .slice none 0 0, .int .u64 0, .slice none 0 0, .pointer (some ⟨w3.heap.size, 0, none⟩)] 74)
  have hA := (Below.refl _ (w3.alloc (.cells #[.int .i64 (R : Int), .int .i64 0, .slice none 0 0] 72))).alloc (Nat.le_refl _) (.cells #[.int .u64 0, .slice none 0 0, .int .u64 0, .slice none 0 0, .pointer (some ⟨w3.heap.size, 0, none⟩)] 74)
  have h1' := (Chg.of_below hA (fun _ => False)).heap h1 (fun h => h)
  rw [size_alloc] at h2
  have hw := hb.size
  refine ⟨⟨_, St.new, [w3.heap.size + 1], [w3.heap.size + 1], [w3.heap.size], LikeS.refl _, ⟨⟨rfl, ⟨none, 0, 0, [], rfl, h2, rfl, Own.nil' _ _, by simp [Tr.blk], by simp, by simp, by simp [Tr.blk], fun k hk => by rw [List.mem_singleton] at hk; rw [hk]; exact heap_lt h2⟩, ⟨none, 0, 0, ⟨h2, rfl, rfl⟩, Own.nil' _ _, by simp [Ls.blk], by simp [Ls.blk]⟩⟩, rfl, ⟨none, 0, h1', Own.nil' _ _, by simp, rfl, ⟨by simp, by simp, hR⟩⟩, fun k hk => by rw [List.mem_singleton] at hk; subst hk; simp⟩, by simp, by simp, by simp⟩, fun i hi => ?_, fun i hi => ?_⟩
  · simp only [List.mem_cons, List.not_mem_nil, or_false] at hi; omega
  · simp only [List.mem_cons, List.not_mem_nil, or_false] at hi
    rw [size_alloc, size_alloc]; omega
theorem shows_duo {w0 w : World} {k p n q r : Nat} {s : St} {d : Jr.Dsk} {B B2 : List Nat} (h : Duo w0 w k p B n q r B2 s d) (id : Nat) :
    Calls Tryz.prog 23 #[.pointer (some ⟨k, 0, none⟩), .pointer (some ⟨q, 0, none⟩), .int .u64 (id : Int)] w fun e w' => e = .returned (.bool true) ∧ Below w.heap.size w w' := by
  obtain ⟨kp, bp, j, F1, F2, G, h1, _⟩ := h.one.at_
  obtain ⟨cs, sd, G2, F, D, hL, h2, _⟩ := h.two.at_
  exact shows_any k p kp bp j id q s sd d F1 F2 G cs _ G2 F w h1 h2.st hL h.one.fit.ok.wk
theorem rp_disk {w0 w : World} {q r : Nat} {s : St} {d : Jr.Dsk} {B : List Nat} (h : Rp w0 w q r s d B) : ∃ ao acap, w.cell? ⟨q, 4, none⟩ = some (.pointer (some ⟨r, 0, none⟩)) ∧ w.cell? ⟨r, 2, none⟩ = some (.slice ao d.b.length acap) ∧ Bts w ao d.b := by
  obtain ⟨cs, sd, G, F, D, hL, h2, _⟩ := h.at_
  obtain ⟨ao, acap, e1, e2, _⟩ := h2.disk
  exact ⟨ao, acap, (heap_cell h2.st.tree.heap 4).trans h2.at4, (Jr.dcell e1).2.2.1, e2.bts⟩
/-- The document's Get answers as the keeper's. -/
theorem rget_duo {w0 w : World} {q r : Nat} {s : St} {d : Jr.Dsk} {B : List Nat} (h : Rp w0 w q r s d B) (hs : s.Ok) (key : ByteArray) :
    Calls Tryz.prog 25 #[.pointer (some ⟨q, 1, none⟩), .string key] w fun e w' => ∃ bo bc, e = .returned (gotV (Tr.lookP s.ps key) bo bc) ∧ Below w.heap.size w w' ∧ ∀ x, Tr.lookP s.ps key = some x → Bts w' bo x.body := by
  obtain ⟨cs, sd, G, F, D, hL, h2, _⟩ := h.at_
  have hn : sd.ps.length ≤ 256 := (hL.wr hs.wk).many
  rw [Tr.look_perm hs.fine.sorted.uniq hL.ps key]
  rcases Tr.first_key sd.ps key with hno | ⟨i, x, hx, h0, hno⟩
  · rw [Tr.look_none hno]
    refine (Tr.rget_none q cs _ sd.ps G key w h2.st.tree hn hno).mono ?_
    rintro e w' ⟨rfl, hb⟩
    exact ⟨none, 0, rfl, hb, fun x hx => by cases hx⟩
  · rw [Tr.look_first hx h0 hno]
    refine (Tr.rget_some q cs _ sd.ps G key x i w h2.st.tree hn hx h0 hno).mono ?_
    rintro e w' ⟨bo, bc, rfl, hb, hbt⟩
    exact ⟨bo, bc, rfl, hb, fun y hy => by cases hy; exact hbt⟩
/-- What Get answers, in one form. -/
theorem got_un (L : Option Tr.Pl) : ∃ (K1 : ByteArray) (body : List UInt8) (V O : Nat) (ok : Bool), ∀ (w : World) (bo : Option Addr) (bc : Nat), (∀ x, L = some x → Bts w bo x.body) → ∃ bo' bc', gotV L bo bc = .tuple #[.agg #[.string K1, .slice bo' body.length bc', .int .u64 (V : Int), .int .u64 (O : Int)], .bool ok] ∧ Bts w bo' body := by
  cases L with
  | none => exact ⟨⟨#[]⟩, [], 0, 0, false, fun w bo bc _ => ⟨none, 0, rfl, Bts.nil _ _⟩⟩
  | some x => exact ⟨x.key, x.body, x.ver, x.own, true, fun w bo bc h => ⟨bo, bc, rfl, h x rfl⟩⟩
theorem crash_duo {w0 w : World} {k p n q r M : Nat} {s : St} {d : Jr.Dsk} {B B2 : List Nat} (h : Duo w0 w k p B n q r B2 s d) (hpl : PlI s d M) (i : Int) (hi : -9223372036854775808 ≤ i ∧ i ≤ 9223372036854775807) :
    Calls Tryz.prog 21 #[.pointer (some ⟨p, 0, none⟩), .int .i64 i, .int .i64 i] w fun e w' => e = .returned (.tuple #[]) ∧ ∃ F', Jr.DiskAt 102 w' p d F' ∧ Chg (· ∈ B) w w' ∧ ∀ i ∈ F', i ∈ B ∨ w.heap.size ≤ i := by
  obtain ⟨G, h1, h2⟩ := h.one.disk
  refine (Jr.crash_any p d G i i w h1 hi).mono ?_
  rintro e w' ⟨rfl, F', g1, g2, g3⟩
  rw [hpl.crash i i] at g1
  exact ⟨rfl, F', g1, g2.to h2, fun i hi => (g3 i hi).imp (h2 i) id⟩
theorem open_yes2 {p room : Nat} {F : List Nat} {L : List (List UInt8)} {s : St} {w : World} (h : Calls Tryz.prog 14 #[.pointer (some ⟨p, 0, none⟩)] w (OpenK w p F room L)) (hL : rplAll St.new L = some s) :
    Calls Tryz.prog 14 #[.pointer (some ⟨p, 0, none⟩)] w fun e w' => ∃ k kp bp j F1 F2 G, e = .returned (.tuple #[.pointer (some ⟨k, 0, none⟩), .int .i64 0]) ∧ s.Wk ∧ KeepAt w' k p s ⟨room, (Jr.frames L).length, Jr.frames L⟩ kp bp j F1 F2 G ∧ (∀ i ∈ keepB k j F1 F2 G, i ∈ F ∨ w.heap.size ≤ i) ∧ Chg (· ∈ F) w w' := by
  refine h.mono ?_
  rintro e w' ⟨hc, ⟨hn, _⟩ | ⟨s', k, kp, bp, j, F1, F2, G, hs, hw, he, hk, hi⟩⟩
  · rw [hL] at hn; cases hn
  · rw [hL] at hs; cases hs
    exact ⟨k, kp, bp, j, F1, F2, G, he, hw, hk, hi, hc⟩
theorem bts_new4 {w w' : World} {NB : Nat} {bo : Option Addr} {bs : List UInt8} {t : TypeId} (hb : Bts w bo bs) (hz : w.heap[NB]? = some (.cells #[.string ⟨#[]⟩, .slice none 0 0, .int .u64 0, .int .u64 0] t (0, 0))) (hc : Chg (· = NB) w w') : Bts w' bo bs := by
  refine Jr.bts_keep hb hc (fun h0 a ha e => ?_)
  cases bs with
  | nil => exact h0 rfl
  | cons x bs =>
    obtain ⟨b, off, hbo, hcs⟩ := hb (by simp)
    rw [hbo] at ha
    cases ha
    dsimp only at e
    subst e
    have h1 := hcs 0 (cb x) rfl
    rw [heap_cell hz] at h1
    have : off = 0 ∨ off = 1 ∨ off = 2 ∨ off = 3 ∨ 4 ≤ off := by omega
    rcases this with rfl | rfl | rfl | rfl | h4
    · simp [cb] at h1
    · simp [cb] at h1
    · simp [cb] at h1
    · simp [cb] at h1
    · rw [Array.getElem?_eq_none (by simp; omega)] at h1
      cases h1
theorem reopen {w0 w w1 : World} {k p n q r M : Nat} {s : St} {d : Jr.Dsk} {B B2 F' : List Nat} (h : Duo w0 w k p B n q r B2 s d) (hpl : PlI s d M) (hm : d.b.length ≤ 1000000) (hd : Jr.DiskAt 102 w1 p d F') (hc : Chg (· ∈ B) w w1) (hF : ∀ i ∈ F', i ∈ B ∨ w.heap.size ≤ i) :
    Calls Tryz.prog 14 #[.pointer (some ⟨p, 0, none⟩)] w1 fun e w2 => ∃ k2 B', e = .returned (.tuple #[.pointer (some ⟨k2, 0, none⟩), .int .i64 0]) ∧ Duo w0 w2 k2 p B' n q r B2 s d ∧ Chg (fun i => i ∈ B) w w2 ∧ ∀ i ∈ B', i ∈ B ∨ w.heap.size ≤ i := by
  obtain ⟨L, hr, hrl, hde⟩ := hpl.recs
  refine (open_yes2 (meta_open p d F' L [] w1 hd hr hm) hrl).mono ?_
  rintro e w2 ⟨k2, kp, bp, j, F1, F2, G, rfl, hw, hk, hi, hc2⟩
  rw [hde] at hk
  have hsz := hc.size
  have hB : ∀ i ∈ keepB k2 j F1 F2 G, i ∈ B ∨ w.heap.size ≤ i := fun i h1 => (hi i h1).elim (hF i) (fun h => .inr (by omega))
  have hcc : Chg (· ∈ B) w w2 := hc.trans hc2 (fun i hi h => (hF i h).elim id (fun h => by omega))
  have hb0 := h.one.below
  refine ⟨k2, keepB k2 j F1 F2 G, rfl, ⟨⟨⟨kp, bp, j, F1, F2, G, hk, fun _ h => h⟩, fun i h1 => (hB i h1).elim (h.one.new i) (Nat.le_trans hb0.size), hk.lt, hb0.trans (hcc.below hb0.size h.one.new), h.one.fit⟩, h.two.keep hcc (fun i h1 h2 => h.apart i h2 h1), fun i h1 h2 => (hB i h1).elim (fun h3 => h.apart i h3 h2) (fun h3 => by have := h.two.lt i h2; omega)⟩, hcc, hB⟩
theorem bool_at {w : World} {co : Option Addr} {bl : List Bool} {j : Nat} {b : Bool} (h : Row w co (bl.map Value.bool)) (hj : bl[j]? = some b) : ∃ bb off, co = some ⟨bb, off, none⟩ ∧ w.cell? ⟨bb, off + j, none⟩ = some (.bool b) := by
  have hne : bl.map Value.bool ≠ [] := by intro h0; rw [List.map_eq_nil_iff] at h0; rw [h0] at hj; simp at hj
  obtain ⟨bb, off, rfl, hc⟩ := h hne
  exact ⟨bb, off, rfl, hc j _ (by rw [List.getElem?_map, hj]; rfl)⟩
/-- What the law's cuts carry. -/
def PlR (w wx : World) (p q r j : Nat) (v : Value) : Prop := ∃ k s d B B2, v = .pointer (some ⟨k, 0, none⟩) ∧ Duo w wx k p B j q r B2 s d ∧ PlI s d j ∧ s.ps.length ≤ j
theorem PlR.below {w wx : World} {p q r j : Nat} {v : Value} (h : PlR w wx p q r j v) : Below w.heap.size w wx := by
  obtain ⟨_, _, _, _, _, _, h, _⟩ := h
  exact h.one.below
-- BEGIN1
set_option maxHeartbeats 8000000 in
set_option maxRecDepth 100000 in
theorem metaPlays_any (room : Nat) (po : Option Addr) (N pc : Nat) (ps : List CmT) (co : Option Addr) (M cc : Nat) (bl : List Bool) (w : World) (h : RowOf w po 6 (fun t cs => CmIs w t.c t.vo t.vc cs) ps) (hN : ps.length = N) (hN2 : N ≤ maxLen) (hroom : room < 4294967296) (hb : Row w co (bl.map Value.bool)) (hM : bl.length = M) (hM2 : M ≤ maxLen) :
    Calls Tryz.prog 6 #[.int .u32 (room : Int), .slice po N pc, .slice co M cc] w fun e w' => e = .returned (.bool true) ∧ Below w.heap.size w w' := by
  have HH := Lib.hid (And.intro h (And.intro hN (And.intro hb hM)))
  obtain ⟨R, hR⟩ : ∃ R, room % 1048576 = R := ⟨_, rfl⟩
  have hRl : R < 1048576 := by omega
  have e0 : ((room : Int) % 1048576) = (R : Int) := by omega
  have e1 : IntKind.i64.wrap (R : Int) = (R : Int) := IntWalk.i64_in _ (by omega)
  unfold maxLen at hN2 hM2
  clear h hN hb hM hR
  go_enter Tryz.func6, Tryz.ntmps6
  go_upto_region 6 with (first
    | (go_at_call 7; (with_reducible refine (awake _).mono ?_); rintro e w1 ⟨rfl, hb⟩; have H1 := Lib.hid hb; clear hb)
    | (go_at_call 13; (with_reducible refine (disk_in w R (R : Int) _ H1.out rfl (by omega)).mono ?_); rintro e w2 ⟨p, rfl, hb, hd, hp⟩; have H2 := Lib.hid (And.intro (H1.out.trans (hb.mono H1.out.size)) (And.intro hd (Nat.le_trans H1.out.size hp))); clear hb hd hp)
    | (go_at_call 14; (with_reducible refine (open_in w p R 0 [p] _ H2.out.2.1 H2.out.1 (fun i hi => by rw [List.mem_singleton] at hi; rw [hi]; exact H2.out.2.2)).mono ?_); rintro e w3 ⟨k, B, rfl, hk, -, -⟩; have H3 := Lib.hid hk; clear hk))
  have hrp := rp_new w w3 R (by omega) H3.out.below
  have hbA := ((Below.refl w3.heap.size w3).alloc (Nat.le_refl _) (.cells #[.int .i64 (R : Int), .int .i64 0, .slice none 0 0] 72)).alloc (by rw [size_alloc]; omega) (.cells #[.int .u64 0, .slice none 0 0, .int .u64 0, .slice none 0 0, .pointer (some ⟨w3.heap.size, 0, none⟩)] 74)
  have hduo : Duo w _ k p B 0 (w3.heap.size + 1) w3.heap.size [w3.heap.size, w3.heap.size + 1] St.new ⟨R, 0, []⟩ := ⟨H3.out.stays hbA, hrp, fun i hi h2 => by
    have := H3.out.lt i hi
    simp only [List.mem_cons, List.not_mem_nil, or_false] at h2
    omega⟩
  have H4 := Lib.hid hduo
  clear hrp hbA hduo
  generalize (w3.alloc (.cells #[.int .i64 (R : Int), .int .i64 0, .slice none 0 0] 72)).alloc (.cells #[.int .u64 0, .slice none 0 0, .int .u64 0, .slice none 0 0, .pointer (some ⟨w3.heap.size, 0, none⟩)] 74) = w4 at *
  generalize w3.heap.size + 1 = q at *
  generalize hrr : w3.heap.size = r at *
  generalize [r, q] = B2 at *
  clear H1 H2 H3 hrr e0
  go_upto_block 0 with fail
  go_cut [] (fun wx => Below w.heap.size w wx)
  case first =>
    go_wp2
    go_loopg [9, 43] N (fun g v i wr => ∃ j : Nat, g + j = N ∧ i = .int .i64 (j : Int) ∧ j ≤ 41 ∧ PlR w wr p q r j v)
    case atStart => exact ⟨0, by omega, rfl, by omega, k, St.new, _, B, B2, rfl, H4.out, PlI.nil R, Nat.le_refl _⟩
    case round =>
      obtain ⟨j, hgj, rfl, hj, k, s, d, B4, B5, rfl, hk, hpl, hps⟩ := hrel
      have HK := Lib.hid (And.intro hk (And.intro hpl hps))
      by_cases hjN : j < N
      · have hji : (j : Int) < (N : Int) := by omega
        have hj0 : (0 : Int) ≤ (j : Int) := by omega
        obtain ⟨b, off, c, vo, vc, rfl, hcm, hcell⟩ := cmt_of HH.out.1 (k := j) (by rw [HH.out.2.1]; exact hjN)
        obtain ⟨c0, c1, c2, c3, c4, c5⟩ := hcell wr hk.one.below
        have HC := Lib.hid hcm
        clear hcm hcell hk hpl hps
        by_cases h40 : 40 < j
        · have h40i : (40 : Int) < (j : Int) := by omega
          have HB := Lib.hid (HK.out.1.one.below.alloc HK.out.1.one.below.size (.cells #[.int .u8 (c.kind : Int), .string c.key, .slice vo c.val.length vc, .int .u64 (c.want : Int), .int .u64 (c.sess : Int), .int .u64 (c.ticks : Int)] 39))
          go_wp2
          go_meet
          exact HB.out
        · have h40i : ¬ (40 : Int) < (j : Int) := by omega
          have hA := (Below.refl wr.heap.size wr).alloc (Nat.le_refl _) (.cells #[.int .u8 (c.kind : Int), .string c.key, .slice vo c.val.length vc, .int .u64 (c.want : Int), .int .u64 (c.sess : Int), .int .u64 (c.ticks : Int)] 39)
          have hT := heap_top wr (.cells #[.int .u8 (c.kind : Int), .string c.key, .slice vo c.val.length vc, .int .u64 (c.want : Int), .int .u64 (c.sess : Int), .int .u64 (c.ticks : Int)] 39)
          have HA := Lib.hid (And.intro hA hT)
          clear hA hT
          go_upto_region 11 with fail
          generalize wr.alloc (.cells #[.int .u8 (c.kind : Int), .string c.key, .slice vo c.val.length vc, .int .u64 (c.want : Int), .int .u64 (c.sess : Int), .int .u64 (c.ticks : Int)] 39) = wa at *
          obtain ⟨a0, a1, a2, a3, a4, a5⟩ := cells6 HA.out.2 (Below.refl _ _)
          by_cases hlong : c.long = true
          · go_wp2_with (go_at_call 8; (with_reducible refine (long_c c vo vc _).mono ?_); rintro e w4 ⟨rfl, hb⟩; have H4 := Lib.hid hb; rw [hlong]; clear hb)
            go_meet
            exact HK.out.1.one.below.trans ((HA.out.1.trans (H4.out.mono HA.out.1.size)).mono HK.out.1.one.below.size)
          · have hlong0 : c.long = false := by simpa using hlong
            have HL := Lib.hid (Cm.long_false hlong0)
            clear hlong
            go_upto_region 12 with (go_at_call 8; (with_reducible refine (long_c c vo vc _).mono ?_); rintro e w4 ⟨rfl, hb⟩; rw [hlong0]; have hT4 := (Chg.of_below hb (fun _ => False)).heap HA.out.2 (fun h => h); obtain ⟨b0, b1, b2, b3, b4, b5⟩ := cells6 hT4 (Below.refl _ _); have H4 := Lib.hid (And.intro (HA.out.1.trans (hb.mono HA.out.1.size)) hT4); clear hb hT4)
            clear a0 a1 a2 a3 a4 a5
            obtain ⟨T, hTq⟩ : ∃ T, wr.heap.size = T := ⟨_, rfl⟩
            have HTB := Lib.hid (show w.heap.size ≤ T ∧ (∀ i ∈ B4, i < T) ∧ ∀ i ∈ B5, i < T from ⟨hTq ▸ HK.out.1.one.below.size, fun i hi => hTq ▸ HK.out.1.one.lt i hi, fun i hi => hTq ▸ HK.out.1.two.lt i hi⟩)
            rw [hTq] at H4 b0 b1 b2 b3 b4 b5 ⊢
            have f0 := heap_frozen H4.out.2 0
            have f1 := heap_frozen H4.out.2 1
            have f2 := heap_frozen H4.out.2 2
            have f3 := heap_frozen H4.out.2 3
            have f4 := heap_frozen H4.out.2 4
            have f5 := heap_frozen H4.out.2 5
            go_upto_region 13 with (go_at_call 9; (with_reducible refine (cmd_c c vo vc _ HC.out.kind HL.out.1).mono ?_); rintro e w5 ⟨q9, KY, rfl, hq, hK, hb⟩; have hT5 := (Chg.of_below hb (fun _ => False)).heap H4.out.2 (fun h => h); obtain ⟨d0, d1, d2', d3, d4, d5⟩ := cells6 hT5 (Below.refl _ _); have g0 := heap_frozen hT5 0; have g1 := heap_frozen hT5 1; have g2 := heap_frozen hT5 2; have g3 := heap_frozen hT5 3; have g4 := heap_frozen hT5 4; have g5 := heap_frozen hT5 5; have H5 := Lib.hid (And.intro (H4.out.1.trans (hb.mono (hTq ▸ H4.out.1.size))) (And.intro hT5 (And.intro hq hK))); clear hb hT5 hq hK)
            have hT6 := six_set (a := .int .u8 (q9 : Int)) (b := .string KY) (c := .slice vo c.val.length vc) (d := .int .u64 (c.want : Int)) (e := .int .u64 (c.sess : Int)) (f := .int .u64 (c.ticks : Int)) H5.out.2.1
            have hch6 := six_chg w5 T (.int .u8 (q9 : Int)) (.string KY) (.slice vo c.val.length vc) (.int .u64 (c.want : Int)) (.int .u64 (c.sess : Int)) (.int .u64 (c.ticks : Int))
            have hk6 := (HK.out.1.stays (hTq ▸ H5.out.1)).keep hch6 (fun i hi e => Nat.lt_irrefl T (e ▸ HTB.out.2.1 i hi)) (fun i hi e => Nat.lt_irrefl T (e ▸ HTB.out.2.2 i hi)) (fun i hi => hi ▸ HTB.out.1)
            generalize (((((w5.setCell ⟨T, 0, none⟩ (.int .u8 (q9 : Int))).setCell ⟨T, 1, none⟩ (.string KY)).setCell ⟨T, 2, none⟩ (.slice vo c.val.length vc)).setCell ⟨T, 3, none⟩ (.int .u64 (c.want : Int))).setCell ⟨T, 4, none⟩ (.int .u64 (c.sess : Int))).setCell ⟨T, 5, none⟩ (.int .u64 (c.ticks : Int)) = W6 at *
            have H6 := Lib.hid (And.intro hk6 hT6)
            have HFit := Lib.hid (show (⟨q9, KY, c.val, c.want, c.sess, c.ticks⟩ : Cm).Fit from ⟨by have := H5.out.2.2.1; show q9 < 256; omega, H5.out.2.2.2, HL.out.2, HC.out.want, HC.out.sess, HC.out.ticks⟩)
            clear hk6 hT6 hch6 f0 f1 f2 f3 f4 f5 b0 b1 b2 b3 b4 b5 d0 d1 d2' d3 d4 d5 g0 g1 g2 g3 g4 g5
            obtain ⟨Rk, hRk⟩ : ∃ Rk, doK s d ⟨q9, KY, c.val, c.want, c.sess, c.ticks⟩ = Rk := ⟨_, rfl⟩
            have hpl' := HK.out.2.1.do (c := ⟨q9, KY, c.val, c.want, c.sess, c.ticks⟩) HK.out.1.one.fit.ok HFit.out
            have hlen' : (doK s d ⟨q9, KY, c.val, c.want, c.sess, c.ticks⟩).1.1.ps.length ≤ s.ps.length + 1 := doK_len
            rw [hRk] at hpl' hlen'
            obtain ⟨⟨s', d'⟩, n', gone, code⟩ := Rk
            have hps := HK.out.2.2
            have HR := Lib.hid (And.intro hRk (And.intro hpl' hlen'))
            clear hRk hpl' hlen'
            have HD6 := Lib.hid (H6.out.1.stays (Below.refl _ _).drew)
            have hTd : W6.drew.heap[T]? = some (.cells #[.int .u8 (q9 : Int), .string KY, .slice vo c.val.length vc, .int .u64 (c.want : Int), .int .u64 (c.sess : Int), .int .u64 (c.ticks : Int)] 39 (0, 0)) := H6.out.2
            have hS0 := cells6 hTd (Below.refl _ _)
            have HTD := Lib.hid hTd
            clear hTd
            -- HAND13
            refine wp_region_held_drew (S := fun wx => wx.cell? ⟨T, 0, none⟩ = some (.int .u8 (q9 : Int)) ∧ wx.cell? ⟨T, 1, none⟩ = some (.string KY) ∧ wx.cell? ⟨T, 2, none⟩ = some (.slice vo c.val.length vc) ∧ wx.cell? ⟨T, 3, none⟩ = some (.int .u64 (c.want : Int)) ∧ wx.cell? ⟨T, 4, none⟩ = some (.int .u64 (c.sess : Int)) ∧ wx.cell? ⟨T, 5, none⟩ = some (.int .u64 (c.ticks : Int))) (by kernel_rfl) hS0 (fun hHeld => ?_)
            refine wpAnyH_take (i := 0) (oi := { dst := some 56, op := Op.move (Operand.tmp 9), type := 54, pos := "law.go:71", after := #[], guard := none }) (v := ?v0x1) rfl (by kernel_rfl) (by kernel_rfl) (by kernel_rfl) (fun _ _ _ h => h) (Or.inl ⟨by rfl, ?hy0x1⟩) (by assumption) ?rest0x1
            case hy0x1 => (intro w hSw; (try dsimp only at hSw); go_simp; all_goals (with_reducible rfl))
            (try simp only [Act.put, List.setIfInBounds_toArray, List.set_cons_zero, List.set_cons_succ])
            refine wpAnyH_take (i := 1) (oi := { dst := some 57, op := Op.move (Operand.tmp 11), type := 69, pos := "law.go:71", after := #[], guard := none }) (v := ?v1x2) rfl (by kernel_rfl) (by kernel_rfl) (by kernel_rfl) (fun _ _ _ h => h) (Or.inl ⟨by rfl, ?hy1x2⟩) (by assumption) ?rest1x2
            case hy1x2 => (intro w hSw; (try dsimp only at hSw); go_simp; all_goals (with_reducible rfl))
            (try simp only [Act.put, List.setIfInBounds_toArray, List.set_cons_zero, List.set_cons_succ])
            refine wpAnyH_take (i := 2) (oi := { dst := some 58, op := Op.load 39 (Operand.tmp 13), type := 39, pos := "law.go:71", after := #[], guard := none }) (v := ?v2x3) rfl (by kernel_rfl) (by kernel_rfl) (by kernel_rfl) (fun _ _ _ h => h) (Or.inl ⟨by rfl, ?hy2x3⟩) (by assumption) ?rest2x3
            case hy2x3 => (intro w hSw; (try dsimp only at hSw); go_simp; all_goals (with_reducible rfl))
            (try simp only [Act.put, List.setIfInBounds_toArray, List.set_cons_zero, List.set_cons_succ])
            refine wpAnyH_ready (rs := [3]) (by kernel_rfl) (by simp) ?_
            refine AllReadyH.cons (o := { dst := some 59, op := Op.call { callee := Callee.value (Operand.func 22), args := #[Operand.tmp 56, Operand.tmp 57, Operand.tmp 58], argTypes := #[54, 69, 39] }, type := 4, pos := "law.go:71", after := #[{ on := 0, ground := Ground.data }, { on := 1, ground := Ground.data }, { on := 2, ground := Ground.data }], guard := none }) rfl (fun K hK => ?_) AllReadyH.nil
            go_simp
            go_at_call 22
            (with_reducible refine (did_any w k p j q r s s' d d' B4 B5 ⟨q9, KY, c.val, c.want, c.sess, c.ticks⟩ vo vc n' gone code _ HD6.out (by omega) (by omega) HFit.out HC.out.val HR.out.1).mono ?_)
            rintro e w7 ⟨rfl, B7, B8, hd7, hc7, hg7, hg8⟩
            have hT7 := hc7.heap HTD.out (fun e => e.elim (fun h => Nat.lt_irrefl T (HTB.out.2.1 T h)) (fun h => Nat.lt_irrefl T (HTB.out.2.2 T h)))
            have hS7 := cells6 hT7 (Below.refl _ _)
            have HTB7 := Lib.hid (show T ∉ B7 ∧ T ∉ B8 from ⟨fun h => (hg7 T h).elim (fun h => Nat.lt_irrefl T (HTB.out.2.1 T h)) (fun h => by have := heap_lt HTD.out; omega), fun h => (hg8 T h).elim (fun h => Nat.lt_irrefl T (HTB.out.2.2 T h)) (fun h => by have := heap_lt HTD.out; omega)⟩)
            have H7 := Lib.hid (And.intro hd7 hT7)
            clear hd7 hc7 hg7 hg8 hT7
            go_wp2_with fail
            refine hK.out _ _ (hS7) (fun hHeld => ?_)
            clear hK K
            (try simp only [Act.put, List.setIfInBounds_toArray, List.set_cons_zero, List.set_cons_succ])
            refine wpAnyH_take (i := 4) (oi := { dst := some 60, op := Op.unOp UnOp.not 4 (Operand.tmp 59), type := 4, pos := "law.go:71", after := #[{ on := 3, ground := Ground.data }], guard := none }) (v := ?v4x5) rfl (by kernel_rfl) (by kernel_rfl) (by kernel_rfl) (fun _ _ _ h => h) (Or.inl ⟨by rfl, ?hy4x5⟩) (by assumption) ?rest4x5
            case hy4x5 => (intro w hSw; (try dsimp only at hSw); go_simp; all_goals (with_reducible rfl))
            (try simp only [Act.put, List.setIfInBounds_toArray, List.set_cons_zero, List.set_cons_succ])
            refine wpAnyH_take (i := 5) (oi := { dst := some 61, op := Op.move (Operand.tmp 60), type := 4, pos := "law.go:71", after := #[{ on := 4, ground := Ground.data }, { on := 3, ground := Ground.chain }], guard := none }) (v := ?v5x6) rfl (by kernel_rfl) (by kernel_rfl) (by kernel_rfl) (fun _ _ _ h => h) (Or.inl ⟨by rfl, ?hy5x6⟩) (by assumption) ?rest5x6
            case hy5x6 => (intro w hSw; (try dsimp only at hSw); go_simp; all_goals (with_reducible rfl))
            (try simp only [Act.put, List.setIfInBounds_toArray, List.set_cons_zero, List.set_cons_succ])
            refine wpAnyH_take (i := 6) (oi := { dst := some 62, op := Op.move (Operand.tmp 9), type := 54, pos := "law.go:71", after := #[{ on := 5, ground := Ground.guard }], guard := some (5, false) }) (v := ?v6x7) rfl (by kernel_rfl) (by kernel_rfl) (by kernel_rfl) (fun _ _ _ h => h) (Or.inl ⟨by rfl, ?hy6x7⟩) (by assumption) ?rest6x7
            case hy6x7 => (intro w hSw; (try dsimp only at hSw); go_simp; all_goals (with_reducible rfl))
            (try simp only [Act.put, List.setIfInBounds_toArray, List.set_cons_zero, List.set_cons_succ])
            refine wpAnyH_take (i := 7) (oi := { dst := some 63, op := Op.move (Operand.tmp 11), type := 69, pos := "law.go:71", after := #[{ on := 5, ground := Ground.guard }], guard := some (5, false) }) (v := ?v7x8) rfl (by kernel_rfl) (by kernel_rfl) (by kernel_rfl) (fun _ _ _ h => h) (Or.inl ⟨by rfl, ?hy7x8⟩) (by assumption) ?rest7x8
            case hy7x8 => (intro w hSw; (try dsimp only at hSw); go_simp; all_goals (with_reducible rfl))
            (try simp only [Act.put, List.setIfInBounds_toArray, List.set_cons_zero, List.set_cons_succ])
            refine wpAnyH_take (i := 8) (oi := { dst := some 64, op := Op.nilCheck (Operand.tmp 63), type := 0, pos := "law.go:71", after := #[{ on := 7, ground := Ground.data }, { on := 5, ground := Ground.guard }], guard := some (5, false) }) (v := ?v8x9) rfl (by kernel_rfl) (by kernel_rfl) (by kernel_rfl) (fun _ _ _ h => h) (Or.inl ⟨by rfl, ?hy8x9⟩) (by assumption) ?rest8x9
            case hy8x9 => (intro w hSw; (try dsimp only at hSw); go_simp; all_goals (with_reducible rfl))
            (try simp only [Act.put, List.setIfInBounds_toArray, List.set_cons_zero, List.set_cons_succ])
            refine wpAnyH_take (i := 9) (oi := { dst := some 65, op := Op.fieldAddr 74 (Operand.tmp 64) 0, type := 0, pos := "law.go:71", after := #[{ on := 8, ground := Ground.data }, { on := 5, ground := Ground.guard }], guard := some (5, false) }) (v := ?v9x10) rfl (by kernel_rfl) (by kernel_rfl) (by kernel_rfl) (fun _ _ _ h => h) (Or.inl ⟨by rfl, ?hy9x10⟩) (by assumption) ?rest9x10
            case hy9x10 => (intro w hSw; (try dsimp only at hSw); go_simp; all_goals (with_reducible rfl))
            (try simp only [Act.put, List.setIfInBounds_toArray, List.set_cons_zero, List.set_cons_succ])
            refine wpAnyH_take (i := 10) (oi := { dst := some 66, op := Op.fieldAddr 39 (Operand.tmp 13) 4, type := 0, pos := "law.go:71", after := #[{ on := 5, ground := Ground.guard }], guard := some (5, false) }) (v := ?v10x11) rfl (by kernel_rfl) (by kernel_rfl) (by kernel_rfl) (fun _ _ _ h => h) (Or.inl ⟨by rfl, ?hy10x11⟩) (by assumption) ?rest10x11
            case hy10x11 => (intro w hSw; (try dsimp only at hSw); go_simp; all_goals (with_reducible rfl))
            (try simp only [Act.put, List.setIfInBounds_toArray, List.set_cons_zero, List.set_cons_succ])
            refine wpAnyH_take (i := 11) (oi := { dst := some 67, op := Op.load 28 (Operand.tmp 66), type := 28, pos := "law.go:71", after := #[{ on := 10, ground := Ground.data }, { on := 5, ground := Ground.guard }], guard := some (5, false) }) (v := ?v11x12) rfl (by kernel_rfl) (by kernel_rfl) (by kernel_rfl) (fun _ _ _ h => h) (Or.inl ⟨by rfl, ?hy11x12⟩) (by assumption) ?rest11x12
            case hy11x12 => (intro w hSw; (try dsimp only at hSw); go_simp; all_goals (with_reducible rfl))
            (try simp only [Act.put, List.setIfInBounds_toArray, List.set_cons_zero, List.set_cons_succ])
            refine wpAnyH_ready (rs := [12]) (by kernel_rfl) (by simp) ?_
            refine AllReadyH.cons (o := { dst := some 68, op := Op.call { callee := Callee.value (Operand.func 23), args := #[Operand.tmp 62, Operand.tmp 65, Operand.tmp 67], argTypes := #[54, 27, 28] }, type := 4, pos := "law.go:71", after := #[{ on := 6, ground := Ground.data }, { on := 9, ground := Ground.data }, { on := 11, ground := Ground.data }, { on := 5, ground := Ground.chain }, { on := 5, ground := Ground.guard }], guard := some (5, false) }) rfl (fun K hK => ?_) AllReadyH.nil
            go_simp
            go_at_call 23
            (with_reducible refine (shows_duo H7.out.1 c.sess).mono ?_)
            rintro e w8 ⟨rfl, hb8⟩
            have hT8 := (Chg.of_below hb8 (fun _ => False)).heap H7.out.2 (fun h => h)
            have hS8 := cells6 hT8 (Below.refl _ _)
            have H8 := Lib.hid (And.intro (H7.out.1.stays hb8) hT8)
            clear hb8 hT8
            go_wp2_with fail
            refine hK.out _ _ (hS8) (fun hHeld => ?_)
            clear hK K
            (try simp only [Act.put, List.setIfInBounds_toArray, List.set_cons_zero, List.set_cons_succ])
            obtain ⟨ao, acap, hx8⟩ := rp_disk H8.out.1.two
            have hcv8 := conv_bytes w8 Tryz.underlying25 Tryz.underlying5 Tryz.underlying9 ao d'.b.length acap d'.b rfl hx8.2.2
            have hS8b := And.intro hx8.1 (And.intro hx8.2.1 (And.intro hcv8 hS8))
            have HX8 := Lib.hid hx8
            clear hx8 hcv8
            refine wpAnyH_more (S2 := fun wx => wx.cell? ⟨q, 4, none⟩ = some (.pointer (some ⟨r, 0, none⟩)) ∧ wx.cell? ⟨r, 2, none⟩ = some (.slice ao d'.b.length acap) ∧ (convert 25 9 (.slice ao d'.b.length acap)).run Tryz.prog wx = .ok (.string (strOf d'.b)) wx ∧ wx.cell? ⟨T, 0, none⟩ = some (.int .u8 (q9 : Int)) ∧ wx.cell? ⟨T, 1, none⟩ = some (.string KY) ∧ wx.cell? ⟨T, 2, none⟩ = some (.slice vo c.val.length vc) ∧ wx.cell? ⟨T, 3, none⟩ = some (.int .u64 (c.want : Int)) ∧ wx.cell? ⟨T, 4, none⟩ = some (.int .u64 (c.sess : Int)) ∧ wx.cell? ⟨T, 5, none⟩ = some (.int .u64 (c.ticks : Int))) (fun _ hSS => hSS.2.2.2) _ _ _ _ ?_
            refine wpAnyH_take (i := 13) (oi := { dst := some 69, op := Op.unOp UnOp.not 4 (Operand.tmp 68), type := 4, pos := "law.go:71", after := #[{ on := 12, ground := Ground.data }, { on := 5, ground := Ground.guard }], guard := some (5, false) }) (v := ?v13x15) rfl (by kernel_rfl) (by kernel_rfl) (by kernel_rfl) (fun _ _ _ h => h) (Or.inl ⟨by rfl, ?hy13x15⟩) (by assumption) ?rest13x15
            case hy13x15 => (intro w hSw; (try dsimp only at hSw); go_simp; all_goals (with_reducible rfl))
            (try simp only [Act.put, List.setIfInBounds_toArray, List.set_cons_zero, List.set_cons_succ])
            refine wpAnyH_take (i := 14) (oi := { dst := some 70, op := Op.pick (Operand.tmp 61) (Operand.const (Value.bool true)) (Operand.tmp 69), type := 4, pos := "law.go:71", after := #[{ on := 5, ground := Ground.data }, { on := 13, ground := Ground.data }], guard := none }) (v := ?v14x16) rfl (by kernel_rfl) (by kernel_rfl) (by kernel_rfl) (fun _ _ _ h => h) (Or.inl ⟨by rfl, ?hy14x16⟩) (by assumption) ?rest14x16
            case hy14x16 => (intro w hSw; (try dsimp only at hSw); go_simp; all_goals (with_reducible rfl))
            (try simp only [Act.put, List.setIfInBounds_toArray, List.set_cons_zero, List.set_cons_succ])
            refine wpAnyH_take (i := 15) (oi := { dst := some 71, op := Op.move (Operand.tmp 70), type := 4, pos := "law.go:71", after := #[{ on := 14, ground := Ground.data }, { on := 12, ground := Ground.chain }], guard := none }) (v := ?v15x17) rfl (by kernel_rfl) (by kernel_rfl) (by kernel_rfl) (fun _ _ _ h => h) (Or.inl ⟨by rfl, ?hy15x17⟩) (by assumption) ?rest15x17
            case hy15x17 => (intro w hSw; (try dsimp only at hSw); go_simp; all_goals (with_reducible rfl))
            (try simp only [Act.put, List.setIfInBounds_toArray, List.set_cons_zero, List.set_cons_succ])
            refine wpAnyH_take (i := 16) (oi := { dst := some 72, op := Op.move (Operand.tmp 7), type := 50, pos := "law.go:71", after := #[{ on := 15, ground := Ground.guard }], guard := some (15, false) }) (v := ?v16x18) rfl (by kernel_rfl) (by kernel_rfl) (by kernel_rfl) (fun _ _ _ h => h) (Or.inl ⟨by rfl, ?hy16x18⟩) (by assumption) ?rest16x18
            case hy16x18 => (intro w hSw; (try dsimp only at hSw); go_simp; all_goals (with_reducible rfl))
            (try simp only [Act.put, List.setIfInBounds_toArray, List.set_cons_zero, List.set_cons_succ])
            refine wpAnyH_take (i := 19) (oi := { dst := some 75, op := Op.move (Operand.tmp 11), type := 69, pos := "law.go:71", after := #[{ on := 15, ground := Ground.guard }], guard := some (15, false) }) (v := ?v19x19) rfl (by kernel_rfl) (by kernel_rfl) (by kernel_rfl) (fun _ _ _ h => h) (Or.inl ⟨by rfl, ?hy19x19⟩) (by assumption) ?rest19x19
            case hy19x19 => (intro w hSw; (try dsimp only at hSw); go_simp; all_goals (with_reducible rfl))
            (try simp only [Act.put, List.setIfInBounds_toArray, List.set_cons_zero, List.set_cons_succ])
            refine wpAnyH_take (i := 20) (oi := { dst := some 76, op := Op.nilCheck (Operand.tmp 75), type := 0, pos := "law.go:71", after := #[{ on := 19, ground := Ground.data }, { on := 15, ground := Ground.guard }], guard := some (15, false) }) (v := ?v20x20) rfl (by kernel_rfl) (by kernel_rfl) (by kernel_rfl) (fun _ _ _ h => h) (Or.inl ⟨by rfl, ?hy20x20⟩) (by assumption) ?rest20x20
            case hy20x20 => (intro w hSw; (try dsimp only at hSw); go_simp; all_goals (with_reducible rfl))
            (try simp only [Act.put, List.setIfInBounds_toArray, List.set_cons_zero, List.set_cons_succ])
            refine wpAnyH_take (i := 21) (oi := { dst := some 77, op := Op.fieldAddr 74 (Operand.tmp 76) 1, type := 0, pos := "law.go:71", after := #[{ on := 20, ground := Ground.data }, { on := 15, ground := Ground.guard }], guard := some (15, false) }) (v := ?v21x21) rfl (by kernel_rfl) (by kernel_rfl) (by kernel_rfl) (fun _ _ _ h => h) (Or.inl ⟨by rfl, ?hy21x21⟩) (by assumption) ?rest21x21
            case hy21x21 => (intro w hSw; (try dsimp only at hSw); go_simp; all_goals (with_reducible rfl))
            (try simp only [Act.put, List.setIfInBounds_toArray, List.set_cons_zero, List.set_cons_succ])
            refine wpAnyH_take (i := 22) (oi := { dst := some 78, op := Op.load 70 (Operand.tmp 77), type := 70, pos := "law.go:71", after := #[{ on := 21, ground := Ground.data }, { on := 15, ground := Ground.guard }], guard := some (15, false) }) (v := ?v22x22) rfl (by kernel_rfl) (by kernel_rfl) (by kernel_rfl) (fun _ _ _ h => h) (Or.inl ⟨by rfl, ?hy22x22⟩) (by assumption) ?rest22x22
            case hy22x22 => (intro w hSw; (try dsimp only at hSw); go_simp; all_goals (with_reducible rfl))
            (try simp only [Act.put, List.setIfInBounds_toArray, List.set_cons_zero, List.set_cons_succ])
            refine wpAnyH_take (i := 23) (oi := { dst := some 79, op := Op.nilCheck (Operand.tmp 78), type := 0, pos := "law.go:71", after := #[{ on := 22, ground := Ground.data }, { on := 15, ground := Ground.guard }], guard := some (15, false) }) (v := ?v23x23) rfl (by kernel_rfl) (by kernel_rfl) (by kernel_rfl) (fun _ _ _ h => h) (Or.inl ⟨by rfl, ?hy23x23⟩) (by assumption) ?rest23x23
            case hy23x23 => (intro w hSw; (try dsimp only at hSw); go_simp; all_goals (with_reducible rfl))
            (try simp only [Act.put, List.setIfInBounds_toArray, List.set_cons_zero, List.set_cons_succ])
            refine wpAnyH_take (i := 24) (oi := { dst := some 80, op := Op.fieldAddr 72 (Operand.tmp 79) 2, type := 0, pos := "law.go:71", after := #[{ on := 23, ground := Ground.data }, { on := 15, ground := Ground.guard }], guard := some (15, false) }) (v := ?v24x24) rfl (by kernel_rfl) (by kernel_rfl) (by kernel_rfl) (fun _ _ _ h => h) (Or.inl ⟨by rfl, ?hy24x24⟩) (by assumption) ?rest24x24
            case hy24x24 => (intro w hSw; (try dsimp only at hSw); go_simp; all_goals (with_reducible rfl))
            (try simp only [Act.put, List.setIfInBounds_toArray, List.set_cons_zero, List.set_cons_succ])
            refine wpAnyH_take (i := 25) (oi := { dst := some 81, op := Op.load 25 (Operand.tmp 80), type := 25, pos := "law.go:71", after := #[{ on := 24, ground := Ground.data }, { on := 15, ground := Ground.guard }], guard := some (15, false) }) (v := ?v25x25) rfl (by kernel_rfl) (by kernel_rfl) (by kernel_rfl) (fun _ _ _ h => h) (Or.inl ⟨by rfl, ?hy25x25⟩) (by assumption) ?rest25x25
            case hy25x25 => (intro w hSw; (try dsimp only at hSw); go_simp; all_goals (with_reducible rfl))
            (try simp only [Act.put, List.setIfInBounds_toArray, List.set_cons_zero, List.set_cons_succ])
            refine wpAnyH_take (i := 26) (oi := { dst := some 82, op := Op.convert 25 9 (Operand.tmp 81), type := 9, pos := "law.go:71", after := #[{ on := 25, ground := Ground.data }, { on := 15, ground := Ground.guard }], guard := some (15, false) }) (v := ?v26x26) rfl (by kernel_rfl) (by kernel_rfl) (by kernel_rfl) (fun _ _ _ h => h) (Or.inl ⟨by rfl, ?hy26x26⟩) (by assumption) ?rest26x26
            case hy26x26 => (intro w hSw; (try dsimp only at hSw); go_simp; all_goals (with_reducible rfl))
            (try simp only [Act.put, List.setIfInBounds_toArray, List.set_cons_zero, List.set_cons_succ])
            refine wpAnyH_ready (rs := [17]) (by kernel_rfl) (by simp) ?_
            refine AllReadyH.cons (o := { dst := some 73, op := Op.call { callee := Callee.value (Operand.func 17), args := #[Operand.tmp 72], argTypes := #[50] }, type := 25, pos := "law.go:71", after := #[{ on := 16, ground := Ground.data }, { on := 15, ground := Ground.chain }, { on := 15, ground := Ground.guard }], guard := some (15, false) }) rfl (fun K hK => ?_) AllReadyH.nil
            go_simp
            go_at_call 17
            (with_reducible refine (bytes_in w k p (j + 1) s' d' B7 _ H8.out.1.one).mono ?_)
            rintro e w9 ⟨bo, bc, rfl, hb9, ho9, -⟩
            have hT9 := (Chg.of_below hb9 (fun _ => False)).heap H8.out.2 (fun h => h)
            have hcv9 := conv_bytes w9 Tryz.underlying25 Tryz.underlying5 Tryz.underlying9 bo d'.b.length bc d'.b rfl ho9.bts
            have hcv9b := conv_bytes w9 Tryz.underlying25 Tryz.underlying5 Tryz.underlying9 ao d'.b.length acap d'.b rfl (HX8.out.2.2.below hb9)
            have hS9 := And.intro ((Chg.of_below hb9 (fun _ => False)).cell HX8.out.1 (fun h => h)) (And.intro ((Chg.of_below hb9 (fun _ => False)).cell HX8.out.2.1 (fun h => h)) (And.intro hcv9b (cells6 hT9 (Below.refl _ _))))
            have H9 := Lib.hid (And.intro (H8.out.1.stays hb9) hT9)
            clear hb9 ho9 hT9 hcv9b
            go_wp2_with fail
            refine hK.out _ _ (hS9) (fun hHeld => ?_)
            clear hK K
            (try simp only [Act.put, List.setIfInBounds_toArray, List.set_cons_zero, List.set_cons_succ])
            refine wpAnyH_ready (rs := [18]) (by kernel_rfl) (by simp) ?_
            refine AllReadyH.cons (o := { dst := some 74, op := Op.convert 25 9 (Operand.tmp 73), type := 9, pos := "law.go:71", after := #[{ on := 17, ground := Ground.data }, { on := 15, ground := Ground.guard }], guard := some (15, false) }) rfl (fun K hK => ?_) AllReadyH.nil
            go_simp
            refine hK.out _ _ (hS9) (fun hHeld => ?_)
            clear hK K
            (try simp only [Act.put, List.setIfInBounds_toArray, List.set_cons_zero, List.set_cons_succ])
            refine wpAnyH_take (i := 27) (oi := { dst := some 83, op := Op.binOp BinOp.neq 9 (Operand.tmp 74) (Operand.tmp 82) 9, type := 4, pos := "law.go:71", after := #[{ on := 18, ground := Ground.data }, { on := 26, ground := Ground.data }, { on := 15, ground := Ground.guard }], guard := some (15, false) }) (v := ?v27x29) rfl (by kernel_rfl) (by kernel_rfl) (by kernel_rfl) (fun _ _ _ h => h) (Or.inl ⟨by rfl, ?hy27x29⟩) (by assumption) ?rest27x29
            case hy27x29 => (intro w hSw; (try dsimp only at hSw); go_simp; all_goals (with_reducible rfl))
            (try simp only [Act.put, List.setIfInBounds_toArray, List.set_cons_zero, List.set_cons_succ])
            refine wpAnyH_take (i := 28) (oi := { dst := some 84, op := Op.pick (Operand.tmp 71) (Operand.const (Value.bool true)) (Operand.tmp 83), type := 4, pos := "law.go:71", after := #[{ on := 15, ground := Ground.data }, { on := 27, ground := Ground.data }], guard := none }) (v := ?v28x30) rfl (by kernel_rfl) (by kernel_rfl) (by kernel_rfl) (fun _ _ _ h => h) (Or.inl ⟨by rfl, ?hy28x30⟩) (by assumption) ?rest28x30
            case hy28x30 => (intro w hSw; (try dsimp only at hSw); go_simp; all_goals (with_reducible rfl))
            (try simp only [Act.put, List.setIfInBounds_toArray, List.set_cons_zero, List.set_cons_succ])
            refine wpAnyH_done (by kernel_rfl) ?_ _
            -- HANDEND13
            have HS9 := Lib.hid hS9
            have hS9' := hS9.2.2.2.2.1
            have hS9s := hS9.2.2.2.2.2.2.2.1
            clear hS0 hS7 hS8 hS8b hS9 hcv9
            go_upto_region 15 with fail
            obtain ⟨K1, body, V, O, ok, hgu⟩ := got_un (Tr.lookP s'.ps KY)
            have HG := Lib.hid hgu
            clear hgu
            go_upto_region 16 with (go_at_call 24; (with_reducible refine (get_in w k p (j + 1) s' d' B7 KY _ H9.out.1.one).mono ?_); rintro e w10 ⟨bo10, bc10, rfl, hb10, hx10⟩; obtain ⟨bo1, bc1, hgv, hbt1⟩ := HG.out w10 bo10 bc10 (fun x hx => (hx10 x hx).1.bts); rw [hgv]; have HB10 := Lib.hid (And.intro (H9.out.1.stays hb10) (And.intro ((Chg.of_below hb10 (fun _ => False)).heap H9.out.2 (fun h => h)) hbt1)); clear hb10 hx10 hgv hbt1)
            have hb0 := (Below.refl w10.heap.size w10).alloc (Nat.le_refl _) (.cells #[.string K1, .slice bo1 body.length bc1, .int .u64 (V : Int), .int .u64 (O : Int)] 78)
            have H10 := Lib.hid (And.intro (HB10.out.1.stays hb0) (And.intro ((Chg.of_below hb0 (fun _ => False)).heap HB10.out.2.1 (fun h => h)) (And.intro (heap_top w10 (.cells #[.string K1, .slice bo1 body.length bc1, .int .u64 (V : Int), .int .u64 (O : Int)] 78)) (HB10.out.2.2.below hb0))))
            clear hb0
            generalize w10.alloc (.cells #[.string K1, .slice bo1 body.length bc1, .int .u64 (V : Int), .int .u64 (O : Int)] 78) = wn at *
            generalize w10.heap.size = NB at *
            have hb1 := ((Below.refl wn.heap.size wn).alloc (Nat.le_refl _) (.cells #[.string ⟨#[]⟩, .slice none 0 0, .int .u64 0, .int .u64 0] 78)).drew
            have hS0 : wn.drew.cell? ⟨T, 1, none⟩ = some (.string KY) := (cells6 H10.out.2.1 (Below.refl _ _)).2.1
            have hSb : (wn.alloc (.cells #[.string ⟨#[]⟩, .slice none 0 0, .int .u64 0, .int .u64 0] 78)).drew.cell? ⟨T, 1, none⟩ = some (.string KY) := (Chg.of_below hb1 (fun _ => False)).cell (show wn.cell? ⟨T, 1, none⟩ = _ from hS0) (fun h => h)
            have HDa := Lib.hid (show Rp w wn.drew q r s' d' B8 from (H10.out.1.stays (Below.refl _ _).drew).two)
            have HDb := Lib.hid (show Rp w (wn.alloc (.cells #[.string ⟨#[]⟩, .slice none 0 0, .int .u64 0, .int .u64 0] 78)).drew q r s' d' B8 from (H10.out.1.stays hb1).two)
            have hTn : ¬ T = wn.heap.size := fun e => by have := heap_lt H10.out.2.1; omega
            have hz0 := heap_top wn (.cells #[.string ⟨#[]⟩, .slice none 0 0, .int .u64 0, .int .u64 0] 78)
            have HB1 := Lib.hid hb1
            clear hb1 hS9' hS9s
            -- HAND16n
            refine wp_region_held_drew (S := fun wx => wx.cell? ⟨T, 1, none⟩ = some (.string KY)) (by kernel_rfl) hS0 (fun hHeld => ?_)
            refine wpAnyH_take (i := 0) (oi := { dst := some 93, op := Op.move (Operand.tmp 11), type := 69, pos := "law.go:75", after := #[], guard := none }) (v := ?v0x31) rfl (by kernel_rfl) (by kernel_rfl) (by kernel_rfl) (fun _ _ _ h => h) (Or.inl ⟨by rfl, ?hy0x31⟩) (by assumption) ?rest0x31
            case hy0x31 => (intro w hSw; (try dsimp only at hSw); go_simp; all_goals (with_reducible rfl))
            (try simp only [Act.put, List.setIfInBounds_toArray, List.set_cons_zero, List.set_cons_succ])
            refine wpAnyH_take (i := 1) (oi := { dst := some 94, op := Op.nilCheck (Operand.tmp 93), type := 0, pos := "law.go:75", after := #[{ on := 0, ground := Ground.data }], guard := none }) (v := ?v1x32) rfl (by kernel_rfl) (by kernel_rfl) (by kernel_rfl) (fun _ _ _ h => h) (Or.inl ⟨by rfl, ?hy1x32⟩) (by assumption) ?rest1x32
            case hy1x32 => (intro w hSw; (try dsimp only at hSw); go_simp; all_goals (with_reducible rfl))
            (try simp only [Act.put, List.setIfInBounds_toArray, List.set_cons_zero, List.set_cons_succ])
            refine wpAnyH_take (i := 2) (oi := { dst := some 95, op := Op.fieldAddr 74 (Operand.tmp 94) 0, type := 0, pos := "law.go:75", after := #[{ on := 1, ground := Ground.data }], guard := none }) (v := ?v2x33) rfl (by kernel_rfl) (by kernel_rfl) (by kernel_rfl) (fun _ _ _ h => h) (Or.inl ⟨by rfl, ?hy2x33⟩) (by assumption) ?rest2x33
            case hy2x33 => (intro w hSw; (try dsimp only at hSw); go_simp; all_goals (with_reducible rfl))
            (try simp only [Act.put, List.setIfInBounds_toArray, List.set_cons_zero, List.set_cons_succ])
            refine wpAnyH_take (i := 3) (oi := { dst := some 96, op := Op.fieldAddr 36 (Operand.tmp 95) 1, type := 0, pos := "law.go:75", after := #[{ on := 2, ground := Ground.data }], guard := none }) (v := ?v3x34) rfl (by kernel_rfl) (by kernel_rfl) (by kernel_rfl) (fun _ _ _ h => h) (Or.inl ⟨by rfl, ?hy3x34⟩) (by assumption) ?rest3x34
            case hy3x34 => (intro w hSw; (try dsimp only at hSw); go_simp; all_goals (with_reducible rfl))
            (try simp only [Act.put, List.setIfInBounds_toArray, List.set_cons_zero, List.set_cons_succ])
            refine wpAnyH_take (i := 4) (oi := { dst := some 97, op := Op.fieldAddr 39 (Operand.tmp 13) 1, type := 0, pos := "law.go:75", after := #[], guard := none }) (v := ?v4x35) rfl (by kernel_rfl) (by kernel_rfl) (by kernel_rfl) (fun _ _ _ h => h) (Or.inl ⟨by rfl, ?hy4x35⟩) (by assumption) ?rest4x35
            case hy4x35 => (intro w hSw; (try dsimp only at hSw); go_simp; all_goals (with_reducible rfl))
            (try simp only [Act.put, List.setIfInBounds_toArray, List.set_cons_zero, List.set_cons_succ])
            refine wpAnyH_take (i := 5) (oi := { dst := some 98, op := Op.load 9 (Operand.tmp 97), type := 9, pos := "law.go:75", after := #[{ on := 4, ground := Ground.data }], guard := none }) (v := ?v5x36) rfl (by kernel_rfl) (by kernel_rfl) (by kernel_rfl) (fun _ _ _ h => h) (Or.inl ⟨by rfl, ?hy5x36⟩) (by assumption) ?rest5x36
            case hy5x36 => (intro w hSw; (try dsimp only at hSw); go_simp; all_goals (with_reducible rfl))
            (try simp only [Act.put, List.setIfInBounds_toArray, List.set_cons_zero, List.set_cons_succ])
            refine wpAnyH_ready (rs := [6, 10]) (by kernel_rfl) (by simp) ?_
            refine AllReadyH.cons (o := { dst := some 99, op := Op.call { callee := Callee.value (Operand.func 25), args := #[Operand.tmp 96, Operand.tmp 98], argTypes := #[31, 9] }, type := 79, pos := "law.go:75", after := #[{ on := 3, ground := Ground.data }, { on := 5, ground := Ground.data }], guard := none }) rfl (fun K hK => ?_) (AllReadyH.cons (o := { dst := some 16, op := Op.alloc 78, type := 0, pos := "law.go:75", after := #[], guard := none }) rfl (fun K hK => ?_) AllReadyH.nil)
            go_simp
            go_at_call 25
            (with_reducible refine (rget_duo HDa.out H10.out.1.one.fit.ok KY).mono ?_)
            rintro e w11 ⟨bo11, bc11, rfl, hb11, hx11⟩
            obtain ⟨bo2, bc2, hgv, hbt2⟩ := HG.out w11 bo11 bc11 hx11
            rw [hgv]
            have hS2 := (Chg.of_below hb11 (fun _ => False)).cell hS0 (fun h => h)
            have H11 := Lib.hid (And.intro hb11 hbt2)
            clear hb11 hx11 hgv hbt2
            go_wp2_with fail
            refine hK.out _ _ (hS2) (fun hHeld => ?_)
            clear hK K
            (try simp only [Act.put, List.setIfInBounds_toArray, List.set_cons_zero, List.set_cons_succ])
            refine wpAnyH_take (i := 7) (oi := { dst := some 92, op := Op.move (Operand.tmp 99), type := 79, pos := "law.go:75", after := #[{ on := 6, ground := Ground.data }], guard := none }) (v := ?v7x39) rfl (by kernel_rfl) (by kernel_rfl) (by kernel_rfl) (fun _ _ _ h => h) (Or.inl ⟨by rfl, ?hy7x39⟩) (by assumption) ?rest7x39
            case hy7x39 => (intro w hSw; (try dsimp only at hSw); go_simp; all_goals (with_reducible rfl))
            (try simp only [Act.put, List.setIfInBounds_toArray, List.set_cons_zero, List.set_cons_succ])
            refine wpAnyH_take (i := 8) (oi := { dst := some 100, op := Op.extract (Operand.tmp 92) 0, type := 78, pos := "law.go:75", after := #[{ on := 7, ground := Ground.data }], guard := none }) (v := ?v8x40) rfl (by kernel_rfl) (by kernel_rfl) (by kernel_rfl) (fun _ _ _ h => h) (Or.inl ⟨by rfl, ?hy8x40⟩) (by assumption) ?rest8x40
            case hy8x40 => (intro w hSw; (try dsimp only at hSw); go_simp; all_goals (with_reducible rfl))
            (try simp only [Act.put, List.setIfInBounds_toArray, List.set_cons_zero, List.set_cons_succ])
            refine wpAnyH_take (i := 9) (oi := { dst := some 101, op := Op.extract (Operand.tmp 92) 1, type := 4, pos := "law.go:75", after := #[{ on := 7, ground := Ground.data }, { on := 11, ground := Ground.gcOnly Departure.lateStores }], guard := none }) (v := ?v9x41) rfl (by kernel_rfl) (by kernel_rfl) (by kernel_rfl) (fun _ _ _ h => h) (Or.inl ⟨by rfl, ?hy9x41⟩) (by assumption) ?rest9x41
            case hy9x41 => (intro w hSw; (try dsimp only at hSw); go_simp; all_goals (with_reducible rfl))
            (try simp only [Act.put, List.setIfInBounds_toArray, List.set_cons_zero, List.set_cons_succ])
            refine wpAnyH_ready (rs := [10]) (by kernel_rfl) (by simp) ?_
            refine AllReadyH.cons (o := { dst := some 16, op := Op.alloc 78, type := 0, pos := "law.go:75", after := #[], guard := none }) rfl (fun K hK => ?_) AllReadyH.nil
            go_simp
            refine hK.out _ _ ((Chg.of_below ((Below.refl _ w11).alloc (Nat.le_refl _) _) (fun _ => False)).cell hS2 (fun h => h)) (fun hHeld => ?_)
            clear hK K
            (try simp only [Act.put, List.setIfInBounds_toArray, List.set_cons_zero, List.set_cons_succ])
            refine wpAnyH_ready (rs := [11]) (by kernel_rfl) (by simp) ?_
            refine AllReadyH.cons (o := { dst := none, op := Op.store 78 (Operand.tmp 16) (Operand.tmp 100), type := 0, pos := "law.go:75", after := #[{ on := 10, ground := Ground.data }, { on := 8, ground := Ground.data }, { on := 6, ground := Ground.chain }, { on := 0, ground := Ground.phase }, { on := 1, ground := Ground.phase }, { on := 2, ground := Ground.phase }, { on := 3, ground := Ground.phase }, { on := 4, ground := Ground.phase }, { on := 5, ground := Ground.phase }, { on := 6, ground := Ground.phase }, { on := 7, ground := Ground.phase }, { on := 8, ground := Ground.phase }, { on := 9, ground := Ground.textOnly Departure.lateStores }, { on := 10, ground := Ground.phase }], guard := none }) rfl (fun K hK => ?_) AllReadyH.nil
            go_simp
            refine hK.out _ _ ((Chg.of_below ((Below.refl _ w11).alloc (Nat.le_refl _) _) (fun _ => False)).cell hS2 (fun h => h)) (fun hHeld => ?_)
            clear hK K
            (try simp only [Act.put, List.setIfInBounds_toArray, List.set_cons_zero, List.set_cons_succ])
            refine wpAnyH_ready (rs := [12]) (by kernel_rfl) (by simp) ?_
            refine AllReadyH.cons (o := { dst := some 17, op := Op.assign (Operand.tmp 101), type := 4, pos := "law.go:75", after := #[{ on := 9, ground := Ground.data }, { on := 11, ground := Ground.chain }, { on := 0, ground := Ground.phase }, { on := 1, ground := Ground.phase }, { on := 2, ground := Ground.phase }, { on := 3, ground := Ground.phase }, { on := 4, ground := Ground.phase }, { on := 5, ground := Ground.phase }, { on := 6, ground := Ground.phase }, { on := 7, ground := Ground.phase }, { on := 8, ground := Ground.phase }, { on := 9, ground := Ground.phase }, { on := 10, ground := Ground.phase }, { on := 11, ground := Ground.phase }], guard := none }) rfl (fun K hK => ?_) AllReadyH.nil
            go_simp
            refine hK.out _ _ ((Chg.of_below ((Below.refl _ w11).alloc (Nat.le_refl _) _) (fun _ => False)).cell hS2 (fun h => h)) (fun hHeld => ?_)
            clear hK K
            (try simp only [Act.put, List.setIfInBounds_toArray, List.set_cons_zero, List.set_cons_succ])
            refine wpAnyH_done (by kernel_rfl) ?_ _
            have hbA := (Below.refl w11.heap.size w11).alloc (Nat.le_refl _) (.cells #[.string K1, .slice bo2 body.length bc2, .int .u64 (V : Int), .int .u64 (O : Int)] 78)
            have hbB : Below wn.heap.size wn w11 := (Below.refl wn.heap.size wn).drew.trans H11.out.1
            have HF := Lib.hid (And.intro ((H10.out.1.stays hbB).stays hbA) (And.intro ((Chg.of_below hbA (fun _ => False)).heap ((Chg.of_below hbB (fun _ => False)).heap H10.out.2.1 (fun h => h)) (fun h => h)) (And.intro ((Chg.of_below hbA (fun _ => False)).heap ((Chg.of_below hbB (fun _ => False)).heap H10.out.2.2.1 (fun h => h)) (fun h => h)) (And.intro (heap_top w11 (.cells #[.string K1, .slice bo2 body.length bc2, .int .u64 (V : Int), .int .u64 (O : Int)] 78)) (And.intro ((H10.out.2.2.2.below hbB).below hbA) (H11.out.2.below hbA))))))
            clear hbA hbB
            generalize w11.alloc (.cells #[.string K1, .slice bo2 body.length bc2, .int .u64 (V : Int), .int .u64 (O : Int)] 78) = Wz at *
            generalize w11.heap.size = NB2 at *
            clear hS2 hSb hS0 hz0 HDa HDb hHeld
            rotate_left
            focus
              go_simp
              refine hK.out _ _ (hSb) (fun hHeld => ?_)
              clear hK K
              (try simp only [Act.put, List.setIfInBounds_toArray, List.set_cons_zero, List.set_cons_succ])
              refine wpAnyH_ready (rs := [6]) (by kernel_rfl) (by simp) ?_
              refine AllReadyH.cons (o := { dst := some 99, op := Op.call { callee := Callee.value (Operand.func 25), args := #[Operand.tmp 96, Operand.tmp 98], argTypes := #[31, 9] }, type := 79, pos := "law.go:75", after := #[{ on := 3, ground := Ground.data }, { on := 5, ground := Ground.data }], guard := none }) rfl (fun K hK => ?_) AllReadyH.nil
              go_simp
              go_at_call 25
              (with_reducible refine (rget_duo HDb.out H10.out.1.one.fit.ok KY).mono ?_)
              rintro e w11 ⟨bo11, bc11, rfl, hb11, hx11⟩
              obtain ⟨bo2, bc2, hgv, hbt2⟩ := HG.out w11 bo11 bc11 hx11
              rw [hgv]
              have hS2 := (Chg.of_below hb11 (fun _ => False)).cell hSb (fun h => h)
              have hz1 := (Chg.of_below hb11 (fun _ => False)).heap (show (wn.alloc (.cells #[.string ⟨#[]⟩, .slice none 0 0, .int .u64 0, .int .u64 0] 78)).drew.heap[wn.heap.size]? = _ from hz0) (fun h => h)
              obtain ⟨y0, y1, y2, y3, -⟩ := cells4 hz1
              have yf0 := heap_frozen hz1 0
              have yf1 := heap_frozen hz1 1
              have yf2 := heap_frozen hz1 2
              have yf3 := heap_frozen hz1 3
              have hset := four_chg w11 wn.heap.size (.string K1) (.slice bo2 body.length bc2) (.int .u64 (V : Int)) (.int .u64 (O : Int))
              have hS4 := hset.cell hS2 hTn
              have H11 := Lib.hid (And.intro hb11 (And.intro hbt2 (And.intro hz1 hset)))
              clear hb11 hx11 hgv hbt2 hz1 hset
              go_wp2_with fail
              refine hK.out _ _ (hS2) (fun hHeld => ?_)
              clear hK K
              (try simp only [Act.put, List.setIfInBounds_toArray, List.set_cons_zero, List.set_cons_succ])
              refine wpAnyH_take (i := 7) (oi := { dst := some 92, op := Op.move (Operand.tmp 99), type := 79, pos := "law.go:75", after := #[{ on := 6, ground := Ground.data }], guard := none }) (v := ?v7x47) rfl (by kernel_rfl) (by kernel_rfl) (by kernel_rfl) (fun _ _ _ h => h) (Or.inl ⟨by rfl, ?hy7x47⟩) (by assumption) ?rest7x47
              case hy7x47 => (intro w hSw; (try dsimp only at hSw); go_simp; all_goals (with_reducible rfl))
              (try simp only [Act.put, List.setIfInBounds_toArray, List.set_cons_zero, List.set_cons_succ])
              refine wpAnyH_take (i := 8) (oi := { dst := some 100, op := Op.extract (Operand.tmp 92) 0, type := 78, pos := "law.go:75", after := #[{ on := 7, ground := Ground.data }], guard := none }) (v := ?v8x48) rfl (by kernel_rfl) (by kernel_rfl) (by kernel_rfl) (fun _ _ _ h => h) (Or.inl ⟨by rfl, ?hy8x48⟩) (by assumption) ?rest8x48
              case hy8x48 => (intro w hSw; (try dsimp only at hSw); go_simp; all_goals (with_reducible rfl))
              (try simp only [Act.put, List.setIfInBounds_toArray, List.set_cons_zero, List.set_cons_succ])
              refine wpAnyH_take (i := 9) (oi := { dst := some 101, op := Op.extract (Operand.tmp 92) 1, type := 4, pos := "law.go:75", after := #[{ on := 7, ground := Ground.data }, { on := 11, ground := Ground.gcOnly Departure.lateStores }], guard := none }) (v := ?v9x49) rfl (by kernel_rfl) (by kernel_rfl) (by kernel_rfl) (fun _ _ _ h => h) (Or.inl ⟨by rfl, ?hy9x49⟩) (by assumption) ?rest9x49
              case hy9x49 => (intro w hSw; (try dsimp only at hSw); go_simp; all_goals (with_reducible rfl))
              (try simp only [Act.put, List.setIfInBounds_toArray, List.set_cons_zero, List.set_cons_succ])
              refine wpAnyH_ready (rs := [11]) (by kernel_rfl) (by simp) ?_
              refine AllReadyH.cons (o := { dst := none, op := Op.store 78 (Operand.tmp 16) (Operand.tmp 100), type := 0, pos := "law.go:75", after := #[{ on := 10, ground := Ground.data }, { on := 8, ground := Ground.data }, { on := 6, ground := Ground.chain }, { on := 0, ground := Ground.phase }, { on := 1, ground := Ground.phase }, { on := 2, ground := Ground.phase }, { on := 3, ground := Ground.phase }, { on := 4, ground := Ground.phase }, { on := 5, ground := Ground.phase }, { on := 6, ground := Ground.phase }, { on := 7, ground := Ground.phase }, { on := 8, ground := Ground.phase }, { on := 9, ground := Ground.textOnly Departure.lateStores }, { on := 10, ground := Ground.phase }], guard := none }) rfl (fun K hK => ?_) AllReadyH.nil
              go_simp
              refine hK.out _ _ (hS4) (fun hHeld => ?_)
              clear hK K
              (try simp only [Act.put, List.setIfInBounds_toArray, List.set_cons_zero, List.set_cons_succ])
              refine wpAnyH_ready (rs := [12]) (by kernel_rfl) (by simp) ?_
              refine AllReadyH.cons (o := { dst := some 17, op := Op.assign (Operand.tmp 101), type := 4, pos := "law.go:75", after := #[{ on := 9, ground := Ground.data }, { on := 11, ground := Ground.chain }, { on := 0, ground := Ground.phase }, { on := 1, ground := Ground.phase }, { on := 2, ground := Ground.phase }, { on := 3, ground := Ground.phase }, { on := 4, ground := Ground.phase }, { on := 5, ground := Ground.phase }, { on := 6, ground := Ground.phase }, { on := 7, ground := Ground.phase }, { on := 8, ground := Ground.phase }, { on := 9, ground := Ground.phase }, { on := 10, ground := Ground.phase }, { on := 11, ground := Ground.phase }], guard := none }) rfl (fun K hK => ?_) AllReadyH.nil
              go_simp
              refine hK.out _ _ (hS4) (fun hHeld => ?_)
              clear hK K
              (try simp only [Act.put, List.setIfInBounds_toArray, List.set_cons_zero, List.set_cons_succ])
              refine wpAnyH_done (by kernel_rfl) ?_ _
              have hbB : Below wn.heap.size wn w11 := HB1.out.trans (H11.out.1.mono HB1.out.size)
              have hcz := H11.out.2.2.2
              have hwz : w.heap.size ≤ wn.heap.size := H10.out.1.one.below.size
              have HF := Lib.hid (And.intro ((H10.out.1.stays hbB).keep hcz (fun i hi e => by have := H10.out.1.one.lt i hi; omega) (fun i hi e => by have := H10.out.1.two.lt i hi; omega) (fun i hi => by omega)) (And.intro (hcz.heap ((Chg.of_below hbB (fun _ => False)).heap H10.out.2.1 (fun h => h)) hTn) (And.intro (hcz.heap ((Chg.of_below hbB (fun _ => False)).heap H10.out.2.2.1 (fun h => h)) (fun e => by have := heap_lt H10.out.2.2.1; omega)) (And.intro (four_set (x := .string K1) (y := .slice bo2 body.length bc2) (z := .int .u64 (V : Int)) (u := .int .u64 (O : Int)) H11.out.2.2.1) (And.intro (Jr.bts_keep (H10.out.2.2.2.below hbB) hcz (fun hz a ha e => by have := bts_lt H10.out.2.2.2 hz a ha; omega)) (bts_new4 H11.out.2.1 H11.out.2.2.1 hcz))))))
              clear hbB hcz hwz
              generalize (((w11.setCell ⟨wn.heap.size, 0, none⟩ (.string K1)).setCell ⟨wn.heap.size, 1, none⟩ (.slice bo2 body.length bc2)).setCell ⟨wn.heap.size, 2, none⟩ (.int .u64 (V : Int))).setCell ⟨wn.heap.size, 3, none⟩ (.int .u64 (O : Int)) = Wz at *
              generalize wn.heap.size = NB2 at *
              clear hS2 hSb hS0 hz0 HDa HDb hHeld hS4 y0 y1 y2 y3 yf0 yf1 yf2 yf3
            -- HANDEND16n
            all_goals (
              obtain ⟨n10, n11, n12, n13, -⟩ := cells4 HF.out.2.2.1
              obtain ⟨n20, n21, n22, n23, -⟩ := cells4 HF.out.2.2.2.1
              have hps1 : s'.ps.length ≤ j + 1 := by have := HR.out.2.2; omega
              go_upto_region 19 with (go_at_call 26; (with_reducible refine (Tr.same_node K1 body _ (V : Int) (O : Int) bo1 bo2 bc1 bc2 _ HF.out.2.2.2.2.1 HF.out.2.2.2.2.2 rfl).mono ?_); rintro e w12 ⟨rfl, hb12⟩; have H12 := Lib.hid (And.intro (HF.out.1.stays hb12) ((Chg.of_below hb12 (fun _ => False)).heap HF.out.2.1 (fun h => h))); clear hb12)
              clear n10 n11 n12 n13 n20 n21 n22 n23
              by_cases hjM : j < M
              · obtain ⟨bv, hbv⟩ : ∃ bv, bl[j]? = some bv := ⟨_, List.getElem?_eq_getElem (by rw [HH.out.2.2.2]; exact hjM)⟩
                obtain ⟨bb, boff, rfl, hcb⟩ := bool_at (HH.out.2.2.1.below H12.out.1.one.below) hbv
                have hjm : (j : Int) < (M : Int) := by omega
                cases bv with
                | false =>
                  go_wp2
                  go_roundg (gk - 1)
                  case measure => omega
                  case rel => exact ⟨j + 1, by omega, by go_num, by omega, k, s', d', B7, B8, rfl, H12.out.1, HR.out.2.1, hps1⟩
                | true =>
                  have hdl : d'.b.length ≤ 1000000 := by
                    obtain ⟨_, _, _, _, _, h5⟩ := HR.out.2.1
                    have := Nat.mul_le_mul_right 4104 (show j + 1 ≤ 42 by omega)
                    omega
                  go_upto_region 21 with (go_at_call 21; (with_reducible refine (crash_duo H12.out.1 HR.out.2.1 (j : Int) ⟨by omega, by omega⟩).mono ?_); rintro e w13 ⟨rfl, F13, hd13, hc13, hF13⟩; have H13 := Lib.hid (And.intro hd13 (And.intro hc13 hF13)); clear hd13 hc13 hF13)
                  go_upto_region 22 with (go_at_call 14; (with_reducible refine (reopen H12.out.1 HR.out.2.1 hdl H13.out.1 H13.out.2.1 H13.out.2.2).mono ?_); rintro e w14 ⟨k2, B9, rfl, hd14, hc14, -⟩; have hT14 := hc14.heap H12.out.2 (fun h => HTB7.out.1 h); have H14 := Lib.hid (And.intro hd14 hT14); clear hd14 hc14 hT14)
                  have hS22 : w14.drew.cell? ⟨T, 4, none⟩ = some (.int .u64 (c.sess : Int)) := (cells6 H14.out.2 (Below.refl _ _)).2.2.2.2.1
                  have HD14 := Lib.hid (H14.out.1.stays (Below.refl _ w14).drew)
                  go_region_held3 (fun wx => wx.cell? ⟨T, 4, none⟩ = some (.int .u64 (c.sess : Int)))
                    (first | exact hS22 | exact hS23)
                    (first | (go_at_call 23; (with_reducible refine (shows_duo HD14.out c.sess).mono ?_); rintro e w15 ⟨rfl, hb15⟩; have hS23 := (Chg.of_below hb15 (fun _ => False)).cell hS22 (fun h => h); have H15 := Lib.hid (HD14.out.stays hb15); clear hb15))
                  clear hS22 hS23
                  go_wp2
                  go_roundg (gk - 1)
                  case measure => omega
                  case rel => exact ⟨j + 1, by omega, by go_num, by omega, k2, s', d', B9, B8, rfl, H15.out, HR.out.2.1, hps1⟩
              · have hjm : ¬ (j : Int) < (M : Int) := by omega
                go_wp2
                go_roundg (gk - 1)
                case measure => omega
                case rel => exact ⟨j + 1, by omega, by go_num, by omega, k, s', d', B7, B8, rfl, H12.out.1, HR.out.2.1, hps1⟩)
      · have HB := Lib.hid hk.one.below
        clear hk hpl hps
        go_wp2
        go_meet
        exact HB.out
  case rest =>
    go_wp2
    go_ret
    exact ⟨rfl, hcut⟩
-- END1
theorem bools_row {w : World} {co : Option Addr} {xs : List Bool} (h : RowOf w co 1 (fun (b : Bool) cs => cs = [.bool b]) xs) : Row w co (xs.map Value.bool) := by
  intro hne
  have h0 : 0 < xs.length := by
    rcases xs with _ | ⟨x, xs⟩
    · exact absurd rfl hne
    · simp
  obtain ⟨b, off, rfl, hx⟩ := h h0
  refine ⟨b, off, rfl, fun i v hv => ?_⟩
  rw [List.getElem?_map] at hv
  rcases e : xs[i]? with _ | y
  · rw [e] at hv; cases hv
  · rw [e] at hv
    obtain ⟨hi, he⟩ := List.getElem?_eq_some_iff.mp e
    obtain ⟨es, -, hes, hc⟩ := hx i hi
    subst hes
    have := hc 0 (.bool xs[i]) rfl
    rw [he] at this
    cases hv
    simpa using this
set_option maxRecDepth 8000 in
theorem metaPlays_in (W : World) (base : Nat) (v0 v1 v2 : Value) (k0 : Value.okWide Tryz.prog W .any base 67 v0) (k1 : Value.okWide Tryz.prog W .any base 23 v1) (k2 : Value.okWide Tryz.prog W .any base 68 v2) (r0 : Rd Tryz.prog W 67 v0.cells.toList) (r1 : Rd Tryz.prog W 23 v1.cells.toList) (r2 : Rd Tryz.prog W 68 v2.cells.toList) :
    Calls Tryz.prog 6 #[v0, v1, v2] W fun e w' => e = .returned (.bool true) ∧ Below W.heap.size W w' := by
  obtain ⟨x, rfl⟩ := in_u32 Tryz.underlying67 k0 r0
  obtain ⟨po, ps, pc, rfl, h4, h5, h6⟩ := in_slice Tryz.underlying23 (size := 6) (by kernel_rfl) (by decide) (fun (t : CmT) cs => CmIs W t.c t.vo t.vc cs) (fun es h => by obtain ⟨c, vo, vc, hc⟩ := cm_rd h; exact ⟨⟨c, vo, vc⟩, hc⟩) k1 r1
  obtain ⟨co, bl, cc, rfl, h7, h8, h9⟩ := in_slice Tryz.underlying68 (size := 1) (by kernel_rfl) (by decide) (fun (b : Bool) cs => cs = [.bool b]) (fun es h => by obtain ⟨b, hb⟩ := h.bool Tryz.underlying4; exact ⟨b, hb⟩) k2 r2
  exact metaPlays_any x.toNat po _ pc ps co _ cc bl W h4 rfl (Nat.le_trans h5 h6) x.isLt (bools_row h7) rfl (Nat.le_trans h8 h9)
end Go.Proofs.YtackmgmaippajaaGreat
