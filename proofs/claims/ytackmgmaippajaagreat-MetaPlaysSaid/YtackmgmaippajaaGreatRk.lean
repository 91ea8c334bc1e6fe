/-
  LAYER 8: the document's Keeper: Do.
-/
import Derived.Test.YtackmgmaippajaaGreatRl
import Derived.Test.YtackmgmaippajaaGreatMtL
namespace Go.Proofs.YtackmgmaippajaaGreat
open Go Go.RowKit

theorem rrec_any (s s0 : St) (c : Cm) (vo : Option Addr) (vc : Nat) (q : Nat) (cs : Array Value) (t : TypeId) (G F : List Nat) (w : World) (h : RsAt w q cs t s G F) (hL : LikeS s0 s) (hs : s0.Ok) (hc : c.Fit) (hv : Bts w vo c.val) :
    Calls Tryz.prog 11 #[.pointer (some ⟨q, 0, none⟩), .agg (c.cells vo vc)] w fun e w' => ∃ bo n cap, e = .returned (.slice bo n cap) ∧ Bld w w' bo n cap (rec s0 c) := by
  unfold rec
  by_cases hk : c.kind = 7
  · rw [if_pos hk]
    exact rrec_state s s0 (c.kind : Int) c.key vo c.val.length vc _ _ _ q cs t G F w h (by omega) hs hL.now hL.last hL.l (hL.sort hs.fine.sorted) (by have := hL.ps.length_eq; have := hs.fine.len; omega)
  · rw [if_neg hk]
    exact rrec_cmd s c vo vc q w hc hk hv
theorem RsAt.slices {w : World} {q : Nat} {cs : Array Value} {t : TypeId} {s : St} {G F : List Nat} (h : RsAt w q cs t s G F) : ∃ lo n cap lo2 n2 cap2, cs[1]? = some (.slice lo n cap) ∧ cs[2]? = some (.int .u64 (s.last : Int)) ∧ cs[3]? = some (.slice lo2 n2 cap2) := by
  obtain ⟨lo, n, cap, l, ht⟩ := h.tree
  obtain ⟨lo2, n2, cap2, hb, _⟩ := h.book
  exact ⟨lo, n, cap, lo2, n2, cap2, ht.at1, hb.at2, hb.at3⟩
/-- The document's keeper at the block q: its state, its disk. -/
structure RkAt (w : World) (q p : Nat) (cs : Array Value) (s : St) (d : Jr.Dsk) (G F D : List Nat) : Prop where
  st : RsAt w q cs 74 s G F
  at4 : cs[4]? = some (.pointer (some ⟨p, 0, none⟩))
  disk : Jr.DiskAt 72 w p d D
  apart : ∀ k ∈ D, k ∉ G ∧ k ∉ F
theorem RkAt.keep {w w' : World} {q p : Nat} {cs : Array Value} {s : St} {d : Jr.Dsk} {G F D : List Nat} (h : RkAt w q p cs s d G F D) {S : Nat → Prop} (hc : Chg S w w') (h1 : ∀ k ∈ G, ¬ S k) (h2 : ∀ k ∈ F, ¬ S k) (h3 : ∀ k ∈ D, ¬ S k) : RkAt w' q p cs s d G F D := ⟨h.st.keep hc h1 h2, h.at4, h.disk.keep hc h3, h.apart⟩
theorem RkAt.stays {w w' : World} {q p : Nat} {cs : Array Value} {s : St} {d : Jr.Dsk} {G F D : List Nat} (h : RkAt w q p cs s d G F D) (hb : Below w.heap.size w w') : RkAt w' q p cs s d G F D := h.keep (Chg.of_below hb (fun _ => False)) (fun _ _ h => h) (fun _ _ h => h) (fun _ _ h => h)
theorem RsAt.qG {w : World} {q : Nat} {cs : Array Value} {t : TypeId} {s : St} {G F : List Nat} (h : RsAt w q cs t s G F) : q ∈ G ∧ q ∈ F := by
  obtain ⟨lo, n, cap, l, ht⟩ := h.tree
  obtain ⟨lo2, n2, cap2, hb, _, _, hF⟩ := h.book
  exact ⟨ht.qG, by rw [hF]; simp⟩
/-- What the document's keeper leaves. -/
def RkDid (w : World) (q p : Nat) (r : (St × Jr.Dsk) × Nat × List Nat × Int) (G F D : List Nat) (e : Ending) (w' : World) : Prop :=
  ∃ uo uc, e = .returned (.tuple #[.int .u64 (r.2.1 : Int), .slice uo r.2.2.1.length uc, .int .i64 r.2.2.2]) ∧ Own w' 1 uo r.2.2.1.length uc (r.2.2.1.map Ls.idCell) ∧ (∀ a, uo = some a → w.heap.size ≤ a.block) ∧
    ∃ s' cs' G' F' D', LikeS r.1.1 s' ∧ RkAt w' q p cs' s' r.1.2 G' F' D' ∧ Chg (fun k => k = q ∨ k ∈ D) w w' ∧ (∀ k ∈ G', k ∈ G ∨ w.heap.size ≤ k) ∧ (∀ k ∈ F', k ∈ F ∨ w.heap.size ≤ k) ∧ ∀ k ∈ D', k ∈ D ∨ w.heap.size ≤ k
theorem RkDid.same {w w' : World} {q p : Nat} {s0 s : St} {d : Jr.Dsk} {cs : Array Value} {G F D : List Nat} {code : Int} (h : RkAt w q p cs s d G F D) (hL : LikeS s0 s) (hb : Below w.heap.size w w') : RkDid w q p ((s0, d), 0, [], code) G F D (.returned (.tuple #[.int .u64 0, .slice none 0 0, .int .i64 code])) w' :=
  ⟨none, 0, rfl, Own.nil' _ _, by simp, s, cs, G, F, D, hL, h.stays hb, Chg.of_below hb _, fun _ h => .inl h, fun _ h => .inl h, fun _ h => .inl h⟩
theorem RkAt.disk' {w w' : World} {q p : Nat} {cs : Array Value} {s : St} {d d' : Jr.Dsk} {G F D D' : List Nat} (h : RkAt w q p cs s d G F D) (hd : Jr.DiskAt 72 w' p d' D') (hc : Chg (· ∈ D) w w') (hg : Grew w D D') : RkAt w' q p cs s d' G F D' :=
  ⟨h.st.keep hc (fun k hk hkD => (h.apart k hkD).1 hk) (fun k hk hkD => (h.apart k hkD).2 hk), h.at4, hd, fun k hk => (hg k hk).elim (h.apart k) (fun hn => ⟨fun hG => by have := h.st.ltG k hG; omega, fun hF => by have := h.st.ltF k hF; omega⟩)⟩
theorem set4_at {cs : Array Value} {x y z u : Value} (h : 4 < cs.size) :
    ((((cs.setIfInBounds 0 x).setIfInBounds 1 y).setIfInBounds 2 z).setIfInBounds 3 u)[0]? = some x ∧ ((((cs.setIfInBounds 0 x).setIfInBounds 1 y).setIfInBounds 2 z).setIfInBounds 3 u)[1]? = some y ∧ ((((cs.setIfInBounds 0 x).setIfInBounds 1 y).setIfInBounds 2 z).setIfInBounds 3 u)[2]? = some z ∧
      ((((cs.setIfInBounds 0 x).setIfInBounds 1 y).setIfInBounds 2 z).setIfInBounds 3 u)[3]? = some u ∧ ((((cs.setIfInBounds 0 x).setIfInBounds 1 y).setIfInBounds 2 z).setIfInBounds 3 u)[4]? = cs[4]? := by
  have h0 : 0 < cs.size := by omega
  have h1 : 1 < cs.size := by omega
  have h2 : 2 < cs.size := by omega
  have h3 : 3 < cs.size := by omega
  refine ⟨?_, ?_, ?_, ?_, ?_⟩ <;> simp [Array.getElem?_setIfInBounds, h0, h1, h2, h3]
/-- Where the document's keeper stands when its disk's sure bytes are told. -/
theorem rk_end {w wN w2 w4 w5 : World} {q p N : Nat} {cs cs2 : Array Value} {s sd : St} {d d5 : Jr.Dsk} {G F D G2 F2 D5 : List Nat} {ao : Option Addr} {acap : Nat} (hN : Below w.heap.size w wN) (h2 : RsAt w2 N cs2 36 sd G2 F2) (hc2 : Chg (· = N) wN w2) (h4 : Below w2.heap.size w2 w4) (h : RkAt w q p cs s d G F D)
    (hc5 : Chg (· ∈ D) w4 w5) (hg5 : Grew w4 D D5) (h5 : RkAt w5 q p cs s d5 G F D5) (hd : w5.heap[p]? = some (.cells (d5.cells ao acap) 72 (0, 0)) ∧ Own w5 1 ao d5.b.length acap (d5.b.map cb) ∧ (∀ a, ao = some a → a.block ≠ p) ∧ D5 = p :: (ao.map (·.block)).toList ∧ d5.Ok)
    (hNw : w.heap.size ≤ N) (hw : w.heap.size ≤ wN.heap.size) (g1 : ∀ k ∈ G2, k ∈ N :: G.filter (fun k => decide (k ≠ q)) ∨ wN.heap.size ≤ k) (g2 : ∀ k ∈ F2, k ∈ N :: F.filter (fun k => decide (k ≠ q)) ∨ wN.heap.size ≤ k) (hqp : q ≠ p) :
    RsAt (w5.setCell ⟨p, 1, none⟩ (.int .i64 (d5.b.length : Int))).drew N cs2 36 sd G2 F2 ∧ RkAt (w5.setCell ⟨p, 1, none⟩ (.int .i64 (d5.b.length : Int))).drew q p cs s ⟨d5.room, d5.b.length, d5.b⟩ G F D5 ∧
      (∀ k ∈ D, k ∉ G2 ∧ k ∉ F2) ∧ q ∉ G2 ∧ q ∉ F2 ∧ (∀ k ∈ D5, k ∉ G2 ∧ k ∉ F2) ∧ q ∉ D5 ∧ Chg (fun k => k = q ∨ k ∈ D) w (w5.setCell ⟨p, 1, none⟩ (.int .i64 (d5.b.length : Int))).drew ∧ Chg (· = p) w5 (w5.setCell ⟨p, 1, none⟩ (.int .i64 (d5.b.length : Int))).drew := by
  obtain ⟨e1, e2, e3, e4, e5⟩ := hd
  have hlt2 : w2.heap.size ≤ w4.heap.size := h4.size
  have hwN : wN.heap.size ≤ w2.heap.size := hc2.size
  have hD : ∀ k ∈ D, k < w.heap.size := h.disk.lt
  have hpD : p ∈ D := by obtain ⟨_, _, _, _, _, hD, _⟩ := h.disk; rw [hD]; simp
  have hq := h.st.lt
  have a1 : ∀ k ∈ D, k ∉ G2 ∧ k ∉ F2 := fun k hk => ⟨fun hG => by
      rcases g1 k hG with h1 | h1
      · rcases List.mem_cons.1 h1 with h1 | h1
        · have := hD k hk; omega
        · exact (h.apart k hk).1 (List.mem_filter.1 h1).1
      · have := hD k hk; omega, fun hF => by
      rcases g2 k hF with h1 | h1
      · rcases List.mem_cons.1 h1 with h1 | h1
        · have := hD k hk; omega
        · exact (h.apart k hk).2 (List.mem_filter.1 h1).1
      · have := hD k hk; omega⟩
  have a2 : q ∉ G2 := fun hG => by
    rcases g1 q hG with h1 | h1
    · rcases List.mem_cons.1 h1 with h1 | h1
      · omega
      · have := (List.mem_filter.1 h1).2; simp at this
    · omega
  have a3 : q ∉ F2 := fun hG => by
    rcases g2 q hG with h1 | h1
    · rcases List.mem_cons.1 h1 with h1 | h1
      · omega
      · have := (List.mem_filter.1 h1).2; simp at this
    · omega
  have hset : Chg (· = p) w5 (w5.setCell ⟨p, 1, none⟩ (.int .i64 (d5.b.length : Int))).drew := ((Chg.refl (· = p) w5).set (p := p) rfl 1 _).trans (Chg.of_below (Below.refl _ _).drew (fun _ => False)) (fun _ _ h => h.elim)
  have hst4 := h2.stays h4
  have hst5 := hst4.keep hc5 (fun k hk hkD => (a1 k hkD).1 hk) (fun k hk hkD => (a1 k hkD).2 hk)
  have hst6 := hst5.keep hset (fun k hk e => (a1 p hpD).1 (e ▸ hk)) (fun k hk e => (a1 p hpD).2 (e ▸ hk))
  have hD6 : Jr.DiskAt 72 (w5.setCell ⟨p, 1, none⟩ (.int .i64 (d5.b.length : Int))).drew p ⟨d5.room, d5.b.length, d5.b⟩ D5 := by
    exact ⟨ao, acap, heap_set e1 1 _, e2.keep hset (fun a ha e => e3 a ha e), e3, e4, ⟨e5.len, Nat.le_refl _, e5.room⟩⟩
  have hpA := h5.apart p (by rw [e4]; simp)
  have hwq : q ∉ D5 := fun hk => (h5.apart q hk).1 h5.st.qG.1
  refine ⟨hst6, ⟨h5.st.keep hset (fun k hk e => hpA.1 (e ▸ hk)) (fun k hk e => hpA.2 (e ▸ hk)), h5.at4, hD6, h5.apart⟩, a1, a2, a3, fun k hk => ?_, hwq, ?_, hset⟩
  · rcases hg5 k hk with h1 | h1
    · exact a1 k h1
    · exact ⟨fun hG => by have := hst4.ltG k hG; omega, fun hF => by have := hst4.ltF k hF; omega⟩
  · have hb2 : Below w.heap.size w w2 := hN.trans (hc2.below hw (fun k hk => by omega))
    have hb4 : Below w.heap.size w w4 := hb2.trans (h4.mono hb2.size)
    exact ((Chg.of_below hb4 _).trans hc5 (fun i hi hk => .inr hk)).trans hset (fun i hi e => .inr (e ▸ hpD))
-- BEGIN1
set_option maxHeartbeats 4000000 in
set_option maxRecDepth 100000 in
theorem rkeeper_do (q p : Nat) (cs : Array Value) (s0 s : St) (d : Jr.Dsk) (G F D : List Nat) (c : Cm) (vo : Option Addr) (vc : Nat) (w : World) (h : RkAt w q p cs s d G F D) (hL : LikeS s0 s) (hs : s0.Ok) (hs' : (doS s0 c).1.Ok) (hc : c.Fit) (hv : Bts w vo c.val) :
    Calls Tryz.prog 51 #[.pointer (some ⟨q, 0, none⟩), .agg (c.cells vo vc)] w (RkDid w q p (doK s0 d c) G F D) := by
  have hlk := like_do hL hs.fine.sorted c
  have hwr := hL.wr hs.wk
  obtain ⟨lo, n, cap, lo2, n2, cap2, k1, k2, k3⟩ := h.st.slices
  have k0 := h.st.at0
  obtain ⟨C, hC⟩ : ∃ C : Cm, C = c := ⟨_, rfl⟩
  obtain ⟨kind, key, val, want, sess, ticks⟩ := c
  have HCC := Lib.hid hC
  rw [← hC] at hs' hc hv hlk ⊢
  have hcells : C.cells vo vc = #[.int .u8 (kind : Int), .string key, .slice vo val.length vc, .int .u64 (want : Int), .int .u64 (sess : Int), .int .u64 (ticks : Int)] := by rw [hC]; rfl
  have HH := Lib.hid (And.intro h (And.intro hL (And.intro hs (And.intro hs' (And.intro hc (And.intro hv (And.intro hlk hwr)))))))
  have HK := Lib.hid (And.intro k0 (And.intro k1 (And.intro k2 k3)))
  have HCE := Lib.hid hcells
  rw [hcells]
  clear h hL hs hs' hc hv hlk hwr k0 k1 k2 k3 hC hcells
  go_enter Tryz.func51, Tryz.ntmps51
  go_upto_region 1 with fail
  have HB := Lib.hid ((Below.refl w.heap.size w).alloc (Nat.le_refl _) (.cells #[.int .u8 (kind : Int), .string key, .slice vo val.length vc, .int .u64 (want : Int), .int .u64 (sess : Int), .int .u64 (ticks : Int)] 39))
  have HT := Lib.hid (heap_top w (.cells #[.int .u8 (kind : Int), .string key, .slice vo val.length vc, .int .u64 (want : Int), .int .u64 (sess : Int), .int .u64 (ticks : Int)] 39))
  generalize w.alloc (.cells #[.int .u8 (kind : Int), .string key, .slice vo val.length vc, .int .u64 (want : Int), .int .u64 (sess : Int), .int .u64 (ticks : Int)] 39) = wb at *
  have hh := (Chg.of_below HB.out (fun _ => False)).heap HH.out.1.st.tree.heap (fun h => h)
  have z0 := (heap_cell hh 0).trans HK.out.1
  have z1 := (heap_cell hh 1).trans HK.out.2.1
  have z2 := (heap_cell hh 2).trans HK.out.2.2.1
  have z3 := (heap_cell hh 3).trans HK.out.2.2.2
  clear hh
  obtain ⟨T, hTq⟩ : ∃ T, w.heap.size = T := ⟨_, rfl⟩
  rw [hTq] at HT ⊢
  go_upto_region 2 with fail
  have hbN := (Below.refl wb.heap.size wb).alloc (Nat.le_refl _) (.cells #[.int .u64 (s.now : Int), .slice lo n cap, .int .u64 (s.last : Int), .slice lo2 n2 cap2] 36)
  have hN := heap_top wb (.cells #[.int .u64 (s.now : Int), .slice lo n cap, .int .u64 (s.last : Int), .slice lo2 n2 cap2] 36)
  have hRb := HH.out.1.stays HB.out
  have hcp := hRb.st.copy hN (Chg.of_below hbN _) (fun hk => Nat.lt_irrefl _ (hRb.st.ltG _ hk)) (fun hk => Nat.lt_irrefl _ (hRb.st.ltF _ hk)) HK.out.1.symm HK.out.2.1.symm HK.out.2.2.1.symm HK.out.2.2.2.symm
  have hTN := (Chg.of_below hbN (fun _ => False)).heap HT.out (fun h => h)
  have hvN := (HH.out.2.2.2.2.2.1.below HB.out).below hbN
  have hdo := rdo_any s C vo vc wb.heap.size _ _ _ _ _ hcp HH.out.2.2.2.2.2.2.2 HH.out.2.2.2.2.1 hvN
  rw [HCE.out] at hdo
  obtain ⟨a0, a1, a2, a3, a4, a5⟩ := cells6 hTN (Below.refl _ _)
  have HN := Lib.hid (And.intro (HB.out.trans (hbN.mono HB.out.size)) (And.intro hTN (hRb.stays hbN)))
  have HDO := Lib.hid hdo
  have HWB := Lib.hid HB.out.size
  clear hbN hN hRb hcp hTN hvN hdo z0 z1 z2 z3
  generalize wb.alloc (.cells #[.int .u64 (s.now : Int), .slice lo n cap, .int .u64 (s.last : Int), .slice lo2 n2 cap2] 36) = wN at *
  obtain ⟨N, hNq⟩ : ∃ N, wb.heap.size = N := ⟨_, rfl⟩
  have hTN : T < N := hNq ▸ heap_lt HT.out
  rw [hNq] at HDO HWB ⊢
  have hNw : w.heap.size ≤ N := HWB.out
  obtain ⟨R, hR⟩ : ∃ R, doS s0 C = R := ⟨_, rfl⟩
  have HLK := Lib.hid HH.out.2.2.2.2.2.2.1
  have HOK := Lib.hid HH.out.2.2.2.1
  rw [hR] at HLK HOK
  obtain ⟨s1, n1, gone, code⟩ := R
  have HRR := Lib.hid hR
  have hd2 : doD s C = ((doD s C).1, n1, gone, code) := Prod.ext rfl HLK.out.2
  obtain ⟨sd, hsd⟩ : ∃ sd, (doD s C).1 = sd := ⟨_, rfl⟩
  rw [hd2] at HDO
  rw [hsd] at HDO HLK
  have HL1 := Lib.hid (show LikeS s1 sd from HLK.out.1)
  clear hd2 hsd HLK hR
  go_upto_region 3 with (go_at_call 10; (with_reducible refine HDO.out.mono ?_); rintro e w2 ⟨uo, uc, rfl, ho, hx, cs2, G2, F2, hst2, hc2, g1, g2, -⟩; have hT2 := hc2.heap HN.out.2.1 (fun e => by omega); have hR2 := HN.out.2.2.keep hc2 (fun k hk e => by have := HH.out.1.st.ltG k hk; omega) (fun k hk e => by have := HH.out.1.st.ltF k hk; omega) (fun k hk e => by have := HH.out.1.disk.lt k hk; omega); obtain ⟨b0, b1, b2, b3, b4, b5⟩ := cells6 hT2 (Below.refl _ _); have H2 := Lib.hid (And.intro hst2 (And.intro hc2 (And.intro hR2 (And.intro g1 (And.intro g2 (And.intro ho (And.intro hx hT2)))))));  clear hst2 hc2 hR2 g1 g2 ho hx hT2)
  by_cases hc0 : code = 0
  · subst hc0
    have HV2 := Lib.hid (HH.out.2.2.2.2.2.1.below (HN.out.1.trans (H2.out.2.1.below HN.out.1.size (fun k hk => by omega))))
    have hrc := rrec_any sd s1 C vo vc N cs2 36 G2 F2 w2 H2.out.1 HL1.out HOK.out HH.out.2.2.2.2.1 HV2.out
    rw [HCE.out] at hrc
    have HRC := Lib.hid hrc
    clear hrc
    obtain ⟨X, hX⟩ : ∃ X, rec s1 C = X := ⟨_, rfl⟩
    rw [hX] at HRC
    have HX := Lib.hid hX
    clear hX
    go_upto_region 6 with (go_at_call 11; (with_reducible refine HRC.out.mono ?_); rintro e w3 ⟨bo, nb, cp, rfl, hb3⟩; have H3 := Lib.hid hb3; clear hb3)
    have HXL := Lib.hid H3.out.len
    by_cases hbig : 4096 < nb
    · have hbi : (4096 : Int) < (nb : Int) := by omega
      go_wp2
      go_ret3
      have hk : doK s0 d C = ((s0, d), 0, [], 3) := by
        unfold doK
        rw [HRR.out]
        dsimp only
        rw [if_neg (fun h => h rfl), if_pos (by rw [HX.out, HXL.out]; exact hbig)]
      rw [hk]
      exact RkDid.same HH.out.1 HH.out.2.1 ((HN.out.1.trans (H2.out.2.1.below HN.out.1.size (fun k hk => by omega))).trans (H3.out.below.mono (by have := HN.out.1.size; have := H2.out.2.1.size; omega)))
    · have hbi : ¬ (4096 : Int) < (nb : Int) := by omega
      go_upto_region 8 with fail
      have hbw : Below w2.heap.size w2 w3.drew := H3.out.below.drew
      have hR3 := H2.out.2.2.1.stays hbw
      have hqD : q ∉ D := fun hk => (HH.out.1.apart q hk).1 HH.out.1.st.qG.1
      have hS0 : w3.drew.cell? ⟨q, 4, none⟩ = some (.pointer (some ⟨p, 0, none⟩)) := (heap_cell hR3.st.tree.heap 4).trans hR3.at4
      have HR3 := Lib.hid (And.intro hR3 (And.intro hbw hqD))
      clear hR3 hbw hqD
      have hfl : (frame X).length = nb + 8 := by rw [frame_len, HXL.out]
      have hap : (d.append (frame X)) = if d.room - d.b.length < nb + 8 then (8, d) else (0, { d with b := d.b ++ frame X }) := by unfold Jr.Dsk.append; rw [hfl]
      have HAP := Lib.hid (And.intro hap hfl)
      clear hap hfl
      have hk : doK s0 d C = if d.room - d.b.length < nb + 8 then ((s0, d), 0, [], 8) else ((s1, ⟨d.room, (d.b ++ frame X).length, d.b ++ frame X⟩), n1, gone, 0) := by
        unfold doK
        rw [HRR.out]
        dsimp only
        rw [if_neg (fun h => h rfl), HX.out, HXL.out, if_neg hbig]
      have HKK := Lib.hid hk
      clear hk
      go_region_held3 (fun wx => wx.cell? ⟨q, 4, none⟩ = some (.pointer (some ⟨p, 0, none⟩)))
        (first | exact hS0 | exact hS4 | exact hS5)
        (first
          | (go_at_call 40; (with_reducible refine (refframe_any bo nb cp (nb + 8) X _ HXL.out (by omega) H3.out.own.bts.drew rfl).mono ?_); rintro e w4 ⟨fo, fc, rfl, hb4, hy4⟩; have hR4 := HR3.out.1.stays hb4; have hS4 := (heap_cell hR4.st.tree.heap 4).trans hR4.at4; have H4 := Lib.hid (And.intro hR4 (And.intro hy4 (HR3.out.2.1.trans (hb4.mono HR3.out.2.1.size)))); clear hR4 hy4 hb4)
          | (go_at_call 93; (with_reducible refine (Jr.rappend_any p d D fo (nb + 8) fc (frame X) _ H4.out.1.disk HAP.out.2 H4.out.2.1 (by omega)).mono ?_); rintro e w5 ⟨rfl, D5, hd5, hc5, hg5⟩; have hS5 := hc5.cell hS4 HR3.out.2.2; have H5 := Lib.hid (And.intro hd5 (And.intro hc5 hg5)); clear hd5 hc5 hg5))
      have hR5 := H4.out.1.disk' H5.out.1 H5.out.2.1 H5.out.2.2
      have HR5 := Lib.hid hR5
      clear hR5
      rw [HAP.out.1] at HR5 ⊢
      clear hS0 hS4
      by_cases hroom : d.room - d.b.length < nb + 8
      · rw [if_pos hroom] at HR5 ⊢
        have HK5 := Lib.hid (show doK s0 d C = ((s0, d), 0, [], 8) by rw [HKK.out, if_pos hroom])
        go_wp2
        go_ret3
        rw [HK5.out]
        have hbw4 : Below w.heap.size w w4 := (HN.out.1.trans (H2.out.2.1.below HN.out.1.size (fun k hk => by omega))).trans (H4.out.2.2.mono (by have := HN.out.1.size; have := H2.out.2.1.size; omega))
        exact ⟨none, 0, rfl, Own.nil' _ _, by simp, s, cs, G, F, D5, HH.out.2.1, HR5.out, (Chg.of_below hbw4 _).trans H5.out.2.1 (fun i hi h => .inr h), fun _ h => .inl h, fun _ h => .inl h, fun k hk => (H5.out.2.2 k hk).imp id (Nat.le_trans hbw4.size)⟩
      · rw [if_neg hroom] at HR5 ⊢
        obtain ⟨Y, hY⟩ : ∃ Y, d.b ++ frame X = Y := ⟨_, rfl⟩
        rw [hY] at HR5
        dsimp only at HR5
        have HK5 := Lib.hid (show doK s0 d C = ((s1, ⟨d.room, Y.length, Y⟩), n1, gone, 0) by rw [HKK.out, if_neg hroom, hY])
        clear hY
        obtain ⟨ao, acap, e1, e2, e3, e4, e5⟩ := HR5.out.disk
        obtain ⟨x0, x1, x2, xf1, xf2⟩ := Jr.dcell e1
        dsimp only at x0 x1 x2
        have HDK := Lib.hid (And.intro e1 (And.intro e2 (And.intro e3 (And.intro e4 e5))))
        have y4 : w5.cell? ⟨q, 4, none⟩ = some (.pointer (some ⟨p, 0, none⟩)) := (heap_cell HR5.out.st.tree.heap 4).trans HR5.out.at4
        have hqp : q ≠ p := fun e => HR3.out.2.2 (by obtain ⟨_, _, _, _, _, hD, _⟩ := HH.out.1.disk; rw [hD, e]; simp)
        have x1' : w5.drew.cell? ⟨p, 1, none⟩ = some (.int .i64 (d.sure : Int)) := x1
        have xf1' : w5.drew.frozen? ⟨p, 1, none⟩ = false := xf1
        have HFA := Lib.hid (rk_end HN.out.1 H2.out.1 H2.out.2.1 H4.out.2.2 HH.out.1 H5.out.2.1 H5.out.2.2 HR5.out HDK.out hNw (HN.out.1.size) H2.out.2.2.2.1 H2.out.2.2.2.2.1 hqp)
        clear e1 e2 e3 e4 e5
        go_upto_region 11 with fail
        go_still_tail 14, (by kernel_rfl)
        repeat still_step
        change wpList _ _ _ _ _ w5.drew
        go_upto_region 12 with fail
        generalize (w5.setCell ⟨p, 1, none⟩ (.int .i64 (Y.length : Int))).drew = W6 at *
        obtain ⟨hst6, hrk6, aD, aq1, aq2, aD5, aqD, hch6, hch56⟩ := HFA.out
        obtain ⟨l1, m1, p1, l2, m2, p2, j1, j2, j3⟩ := hst6.slices
        have j0 := hst6.at0
        have hhN := hst6.tree.heap
        have hhq := hrk6.st.tree.heap
        have t0 := (heap_cell hhN 0).trans j0
        have t1 := (heap_cell hhN 1).trans j1
        have t2 := (heap_cell hhN 2).trans j2
        have t3 := (heap_cell hhN 3).trans j3
        have u0 := (heap_cell hhq 0).trans HK.out.1
        have u1 := (heap_cell hhq 1).trans HK.out.2.1
        have u2 := (heap_cell hhq 2).trans HK.out.2.2.1
        have u3 := (heap_cell hhq 3).trans HK.out.2.2.2
        have uf0 := heap_frozen hhq 0
        have uf1 := heap_frozen hhq 1
        have uf2 := heap_frozen hhq 2
        have uf3 := heap_frozen hhq 3
        have hset := four_chg W6 q (.int .u64 (sd.now : Int)) (.slice l1 m1 p1) (.int .u64 (sd.last : Int)) (.slice l2 m2 p2)
        have hhs := heap_set (heap_set (heap_set (heap_set hhq 0 (.int .u64 (sd.now : Int))) 1 (.slice l1 m1 p1)) 2 (.int .u64 (sd.last : Int))) 3 (.slice l2 m2 p2)
        have hs4 := (Array.getElem?_eq_some_iff.1 hrk6.at4).1
        obtain ⟨s0', s1', s2', s3', s4'⟩ := set4_at (x := .int .u64 (sd.now : Int)) (y := .slice l1 m1 p1) (z := .int .u64 (sd.last : Int)) (u := .slice l2 m2 p2) hs4
        have hcp := hst6.copy hhs hset aq1 aq2 (s0'.trans j0.symm) (s1'.trans j1.symm) (s2'.trans j2.symm) (s3'.trans j3.symm)
        have h4' := s4'.trans hrk6.at4
        have hdk := hrk6.disk.keep hset (fun k hk e => aqD (e ▸ hk))
        have how := ((((H2.out.2.2.2.2.2.1.keep (Chg.of_below H4.out.2.2 (fun _ => False)) (fun _ _ h => h)).keep H5.out.2.1 (fun a ha hk => by have := H2.out.2.2.2.2.2.2.1 a ha; have := HH.out.1.disk.lt _ hk; have := HN.out.1.size; omega))))
        have HFB := Lib.hid (And.intro hcp (And.intro h4' (And.intro hdk (And.intro aD5 (And.intro aqD (And.intro hch6 (And.intro hset (And.intro how hch56))))))))
        clear hst6 hrk6 aD aq1 aq2 aD5 aqD hch6 hch56 j0 j1 j2 j3 hhN hhq hset hhs hcp h4' hdk how HFA s0' s1' s2' s3' s4'
        go_wp2
        go_ret3
        rw [HK5.out]
        obtain ⟨hcp, h4', hdk, aD5, aqD, hch6, hset, how, hch56⟩ := HFB.out
        have hwN := HN.out.1.size
        have huo : ∀ a, uo = some a → w.heap.size ≤ a.block ∧ a.block ≠ q ∧ a.block ≠ p := fun a ha => by
          have := H2.out.2.2.2.2.2.2.1 a ha
          have := HH.out.1.st.lt
          have hpD : p ∈ D := by obtain ⟨_, _, _, _, _, hD, _⟩ := HH.out.1.disk; rw [hD]; simp
          have := HH.out.1.disk.lt p hpD
          omega
        refine ⟨uo, uc, rfl, ?_, fun a ha => (huo a ha).1, sd, _, _, _, D5, HL1.out, ⟨hcp, h4', hdk, fun k hk => ?_⟩, hch6.trans hset (fun i hi e => .inl e), fun k hk => ?_, fun k hk => ?_, fun k hk => (H5.out.2.2 k hk).imp id (fun h => by have := H4.out.2.2.size; have := H2.out.2.1.size; omega)⟩
        · exact (how.keep hch56 (fun a ha e => (huo a ha).2.2 e)).keep hset (fun a ha e => (huo a ha).2.1 e)
        · refine ⟨fun h => ?_, fun h => ?_⟩
          · rcases List.mem_cons.1 h with h | h
            · exact aqD (h ▸ hk)
            · exact (aD5 k hk).1 (List.mem_filter.1 h).1
          · rcases List.mem_cons.1 h with h | h
            · exact aqD (h ▸ hk)
            · exact (aD5 k hk).2 (List.mem_filter.1 h).1
        · rcases List.mem_cons.1 hk with h | h
          · exact .inl (h ▸ HH.out.1.st.qG.1)
          · obtain ⟨h1, h2⟩ := List.mem_filter.1 h
            rcases H2.out.2.2.2.1 k h1 with h3 | h3
            · rcases List.mem_cons.1 h3 with h3 | h3
              · simp [h3] at h2
              · exact .inl (List.mem_filter.1 h3).1
            · exact .inr (by omega)
        · rcases List.mem_cons.1 hk with h | h
          · exact .inl (h ▸ HH.out.1.st.qG.2)
          · obtain ⟨h1, h2⟩ := List.mem_filter.1 h
            rcases H2.out.2.2.2.2.1 k h1 with h3 | h3
            · rcases List.mem_cons.1 h3 with h3 | h3
              · simp [h3] at h2
              · exact .inl (List.mem_filter.1 h3).1
            · exact .inr (by omega)
  · have hcn : code ≠ 0 := hc0
    have hcb : ((code : Int) != 0) = true := by simpa using hc0
    go_wp2
    go_ret3
    rw [doK_no HRR.out hcn]
    exact RkDid.same HH.out.1 HH.out.2.1 (HN.out.1.trans (H2.out.2.1.below HN.out.1.size (fun k hk => by omega)))
-- END1
end Go.Proofs.YtackmgmaippajaaGreat
