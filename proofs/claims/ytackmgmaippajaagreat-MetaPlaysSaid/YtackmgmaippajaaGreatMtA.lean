/-
  LAYER 8: a keeper's state in memory; a new one; a copy.
-/
import Derived.Test.YtackmgmaippajaaGreatMtP
import Derived.Laws.ResultCell
namespace Go.Proofs.YtackmgmaippajaaGreat
open Go Go.RowKit

/-- A state: the first three cells of the block sp. -/
structure StAt (w : World) (sp : Nat) (cs : Array Value) (t : TypeId) (s : St) (kp bp : Nat) (F1 F2 : List Nat) : Prop where
  heap : w.heap[sp]? = some (.cells cs t (0, 0))
  at0 : cs[0]? = some (.int .u64 (s.now : Int))
  at1 : cs[1]? = some (.pointer (some ⟨kp, 0, none⟩))
  at2 : cs[2]? = some (.pointer (some ⟨bp, 0, none⟩))
  tree : Tr.TreeAt w kp s.ps F1
  book : Ls.BookAt w bp s.last s.l F2
  out1 : sp ∉ F1
  out2 : sp ∉ F2
  apart : ∀ k ∈ F1, k ∉ F2
theorem StAt.keep {w w' : World} {sp kp bp : Nat} {cs : Array Value} {t : TypeId} {s : St} {F1 F2 : List Nat} (h : StAt w sp cs t s kp bp F1 F2) {S : Nat → Prop} (hc : Chg S w w') (h0 : ¬ S sp) (h1 : ∀ k ∈ F1, ¬ S k) (h2 : ∀ k ∈ F2, ¬ S k) : StAt w' sp cs t s kp bp F1 F2 :=
  ⟨hc.heap h.heap h0, h.at0, h.at1, h.at2, h.tree.keep hc h1, h.book.keep hc h2, h.out1, h.out2, h.apart⟩
theorem StAt.stays {w w' : World} {sp kp bp : Nat} {cs : Array Value} {t : TypeId} {s : St} {F1 F2 : List Nat} (h : StAt w sp cs t s kp bp F1 F2) (hb : Below w.heap.size w w') : StAt w' sp cs t s kp bp F1 F2 :=
  h.keep (Chg.of_below hb (fun _ => False)) (fun h => h) (fun _ _ h => h) (fun _ _ h => h)
theorem StAt.cell {w : World} {sp kp bp : Nat} {cs : Array Value} {t : TypeId} {s : St} {F1 F2 : List Nat} (h : StAt w sp cs t s kp bp F1 F2) :
    w.cell? ⟨sp, 0, none⟩ = some (.int .u64 (s.now : Int)) ∧ w.cell? ⟨sp, 1, none⟩ = some (.pointer (some ⟨kp, 0, none⟩)) ∧ w.cell? ⟨sp, 2, none⟩ = some (.pointer (some ⟨bp, 0, none⟩)) ∧ ∀ i, w.frozen? ⟨sp, i, none⟩ = false :=
  ⟨(heap_cell h.heap 0).trans h.at0, (heap_cell h.heap 1).trans h.at1, (heap_cell h.heap 2).trans h.at2, fun i => heap_frozen h.heap i⟩
/-- A state, as a value. -/
def stVal (s : St) (kp bp : Nat) : Value := .agg #[.int .u64 (s.now : Int), .pointer (some ⟨kp, 0, none⟩), .pointer (some ⟨bp, 0, none⟩)]
/-- What makes a state anew. -/
def Made (w : World) (s : St) (e : Ending) (w' : World) : Prop :=
  ∃ kp bp F1 F2, e = .returned (stVal s kp bp) ∧ Below w.heap.size w w' ∧ Tr.TreeAt w' kp s.ps F1 ∧ Ls.BookAt w' bp s.last s.l F2 ∧ (∀ k ∈ F1, w.heap.size ≤ k) ∧ (∀ k ∈ F2, w.heap.size ≤ k) ∧ ∀ k ∈ F1, k ∉ F2
theorem good_nodes {s : St} (h : s.Ok) {es : List Nd} (he : es.map Nd.pl = s.ps) : ∀ k e, es[k]? = some e → Tr.Good es k e := by
  intro k e hk
  have hx : s.ps[k]? = some e.pl := by rw [← he, List.getElem?_map, hk]; rfl
  have hm := List.mem_of_getElem? hx
  refine ⟨(h.key _ hm).1, (h.key _ hm).2, h.fine.body _ hm, by have := h.ver _ hm; exact Nat.one_le_iff_ne_zero.1 this, ?_⟩
  rcases Nat.eq_zero_or_pos k with h0 | h0
  · exact .inl h0
  · obtain ⟨q, rfl⟩ : ∃ q, k = q + 1 := ⟨k - 1, by omega⟩
    have hkl := (List.getElem?_eq_some_iff.1 hk).1
    obtain ⟨d, hd⟩ : ∃ d, es[q]? = some d := ⟨_, List.getElem?_eq_getElem (by omega)⟩
    refine .inr ⟨q, d, rfl, hd, ?_⟩
    rw [Tr.less_keys]
    have hd' : s.ps[q]? = some d.pl := by rw [← he, List.getElem?_map, hd]; rfl
    obtain ⟨i1, e1⟩ := List.getElem?_eq_some_iff.1 hd'
    obtain ⟨i2, e2⟩ := List.getElem?_eq_some_iff.1 hx
    have := List.pairwise_iff_getElem.1 h.fine.sorted q (q + 1) i1 i2 (by omega)
    rw [e1, e2] at this
    exact decide_eq_true this
theorem three_set {w : World} {T : Nat} {a b c x y z : Value} {t : TypeId} (h : w.heap[T]? = some (.cells #[a, b, c] t (0, 0))) :
    (((w.setCell ⟨T, 0, none⟩ x).setCell ⟨T, 1, none⟩ y).setCell ⟨T, 2, none⟩ z).heap[T]? = some (.cells #[x, y, z] t (0, 0)) := by
  have h1 := heap_set h 0 x
  have h2 := heap_set h1 1 y
  have h3 := heap_set h2 2 z
  simpa using h3
-- BEGIN1
set_option maxHeartbeats 4000000 in
set_option maxRecDepth 100000 in
theorem fresh_any (w : World) : Calls Tryz.prog 43 #[] w (Made w St.new) := by
  have H0 := Lib.hid ((Below.refl w.heap.size w).alloc (Nat.le_refl _) (.cells #[.int .u64 0, .pointer none, .pointer none] 109))
  have HT := Lib.hid (heap_top w (.cells #[.int .u64 0, .pointer none, .pointer none] 109))
  have HS := Lib.hid (size_alloc w (.cells #[.int .u64 0, .pointer none, .pointer none] 109))
  go_enter Tryz.func43, Tryz.ntmps43
  go_wp2_with fail
  generalize w.alloc (.cells #[.int .u64 0, .pointer none, .pointer none] 109) = wa at *
  (with_reducible refine (Ls.new_in w wa 0 0 rfl (by decide) H0.out).mono ?_)
  rintro e w1 ⟨bp, rfl, hb1, hk1, hp1⟩
  have H1 := Lib.hid (And.intro hb1 (And.intro hk1 hp1))
  clear hb1 hk1 hp1
  go_wp2_with fail
  (with_reducible refine (Tr.new_any _).mono ?_)
  rintro e w2 ⟨rfl, hb2, ht2⟩
  have hT2 := (Chg.of_below hb2 (fun _ => False)).heap ((Chg.of_below H1.out.1 (fun _ => False)).heap HT.out (fun h => h)) (fun h => h)
  obtain ⟨z0, z1, z2, zf⟩ := cells3 hT2
  have hs1 : w.heap.size + 1 ≤ w1.heap.size := by have := H1.out.1.size; rw [HS.out] at this; exact this
  have hbk : bp < w1.heap.size := H1.out.2.1.book.lt bp (by simp)
  have hpw : w.heap.size + 1 ≤ bp := by have := H1.out.2.2; rw [HS.out] at this; exact this
  have H2 := Lib.hid (And.intro hb2 (And.intro ht2 hT2))
  clear hb2 ht2 hT2
  generalize hkp : w1.heap.size = kp at *
  go_wp2
  have hT5 := three_set (x := .int .u64 0) (y := .pointer (some ⟨kp, 0, none⟩)) (z := .pointer (some ⟨bp, 0, none⟩)) H2.out.2.2
  have hch5 : Chg (· = w.heap.size) w2 (((w2.setCell ⟨w.heap.size, 0, none⟩ (.int .u64 0)).setCell ⟨w.heap.size, 1, none⟩ (.pointer (some ⟨kp, 0, none⟩))).setCell ⟨w.heap.size, 2, none⟩ (.pointer (some ⟨bp, 0, none⟩))) :=
    (((Chg.refl (· = w.heap.size) w2).set (p := w.heap.size) rfl 0 _).set (p := w.heap.size) rfl 1 _).set (p := w.heap.size) rfl 2 _
  generalize ((w2.setCell ⟨w.heap.size, 0, none⟩ (.int .u64 0)).setCell ⟨w.heap.size, 1, none⟩ (.pointer (some ⟨kp, 0, none⟩))).setCell ⟨w.heap.size, 2, none⟩ (.pointer (some ⟨bp, 0, none⟩)) = W5 at *
  obtain ⟨c0, c1, c2, _⟩ := cells3 hT5
  have hb12 : Below w1.heap.size w1 w2 := by rw [hkp]; exact H2.out.1
  have hb2 : Below w.heap.size w w2 := H0.out.trans ((H1.out.1.mono H0.out.size).trans (hb12.mono (by omega)))
  refine bodyPost_ret (v := stVal St.new kp bp) (w := W5) ?_ rfl ?_
  · simp [results, Tryz.results43, go_sem, c0, c1, c2]
    rfl
  · refine ⟨kp, bp, [kp], [bp], rfl, hb2.trans (hch5.below hb2.size (fun k hk => by rw [hk]; exact Nat.le_refl _)), H2.out.2.1.keep hch5 (fun k hk => ?_), (H1.out.2.1.book.keep (Chg.of_below hb12 (fun _ => False)) (fun _ _ h => h)).keep hch5 (fun k hk => ?_), fun k hk => ?_, fun k hk => ?_, fun k hk hk2 => ?_⟩
    all_goals (simp at *; omega)
-- END1
-- BEGIN2
set_option maxHeartbeats 4000000 in
set_option maxRecDepth 100000 in
theorem copied_any (s : St) (kp bp : Nat) (F1 F2 : List Nat) (w : World) (hs : s.Ok) (h1 : Tr.TreeAt w kp s.ps F1) (h2 : Ls.BookAt w bp s.last s.l F2) :
    Calls Tryz.prog 47 #[stVal s kp bp] w (Made w s) := by
  have HA := Lib.hid (((Below.refl w.heap.size w).alloc (Nat.le_refl _) (.cells #[.int .u64 (s.now : Int), .pointer (some ⟨kp, 0, none⟩), .pointer (some ⟨bp, 0, none⟩)] 109)).alloc (by rw [size_alloc]; omega) (.cells #[.int .u64 0, .pointer none, .pointer none] 109))
  have hT := (Chg.of_below ((Below.refl _ _).alloc (Nat.le_refl _) (.cells #[.int .u64 0, .pointer none, .pointer none] 109)) (fun _ => False)).heap (heap_top w (.cells #[.int .u64 (s.now : Int), .pointer (some ⟨kp, 0, none⟩), .pointer (some ⟨bp, 0, none⟩)] 109)) (fun h => h)
  have hR := heap_top (w.alloc (.cells #[.int .u64 (s.now : Int), .pointer (some ⟨kp, 0, none⟩), .pointer (some ⟨bp, 0, none⟩)] 109)) (.cells #[.int .u64 0, .pointer none, .pointer none] 109)
  have hS : ((w.alloc (.cells #[.int .u64 (s.now : Int), .pointer (some ⟨kp, 0, none⟩), .pointer (some ⟨bp, 0, none⟩)] 109)).alloc (.cells #[.int .u64 0, .pointer none, .pointer none] 109)).heap.size = w.heap.size + 1 + 1 := by rw [size_alloc, size_alloc]
  rw [size_alloc] at hR
  have HH := Lib.hid (And.intro hs (And.intro h1 h2))
  have HLT := Lib.hid (And.intro h1.lt h2.lt)
  clear hs h1 h2
  unfold stVal
  go_enter Tryz.func47, Tryz.ntmps47
  go_upto_region 1 with fail
  generalize (w.alloc (.cells #[.int .u64 (s.now : Int), .pointer (some ⟨kp, 0, none⟩), .pointer (some ⟨bp, 0, none⟩)] 109)).alloc (.cells #[.int .u64 0, .pointer none, .pointer none] 109) = wa at *
  obtain ⟨z0, z1, z2, zf⟩ := cells3 hT
  have H0 := Lib.hid (And.intro hT (And.intro hR hS))
  clear hT hR hS
  have HOK := Lib.hid HH.out.1
  have hn256 := HH.out.1.fine.len
  have HL := Lib.hid (Tr.list_new kp s.ps F1 wa (HH.out.2.1.keep (Chg.of_below HA.out (fun _ => False)) (fun _ _ h => h)) HH.out.1.fine)
  go_wp2_with fail
  (with_reducible refine HL.out.mono ?_)
  rintro e w1 ⟨xo, xc, es, rfl, hb1, hn1, hm1, -, -⟩
  have HLD := Lib.hid (Tr.load_to xo s.ps.length xc s.ps.length es w1 true (by rw [← hm1, List.length_map]) hn1 hn256 (Nat.le_refl _) (fun k _ e he => good_nodes HOK.out hm1 k e he) (.inl ⟨rfl, rfl⟩))
  have H1 := Lib.hid (And.intro hb1 hm1)
  clear hb1 hn1 hm1 HL
  go_wp2_with fail
  (with_reducible refine HLD.out.mono ?_)
  rintro e w2 ⟨hb2, ⟨hf, -⟩ | ⟨-, p, G1, rfl, ht2, hg2⟩⟩
  · cases hf
  rw [H1.out.2] at ht2
  have hba2 : Below wa.heap.size wa w2 := H1.out.1.trans (hb2.mono H1.out.1.size)
  have hT2 := (Chg.of_below hba2 (fun _ => False)).heap H0.out.1 (fun h => h)
  have hR2 := (Chg.of_below hba2 (fun _ => False)).heap H0.out.2.1 (fun h => h)
  obtain ⟨y0, y1, y2, yf⟩ := cells3 hT2
  have H2 := Lib.hid (And.intro hba2 (And.intro ht2 (And.intro (fun k hk => Nat.le_trans H1.out.1.size (hg2 k hk)) (And.intro hT2 hR2))))
  clear hb2 ht2 hg2 hba2 hT2 hR2 HLD z0 z1 z2 zf
  go_upto_region 2 with fail
  have hT3 := heap_set H2.out.2.2.2.1 1 (.pointer (some ⟨p, 0, none⟩))
  simp only [List.setIfInBounds_toArray, List.set_cons_zero, List.set_cons_succ] at hT3
  have hc3 := Chg.one w2 w.heap.size 1 (.pointer (some ⟨p, 0, none⟩))
  have hba3 : Below w.heap.size w (w2.setCell ⟨w.heap.size, 1, none⟩ (.pointer (some ⟨p, 0, none⟩))) := (HA.out.trans (H2.out.1.mono HA.out.size)).trans (hc3.below (HA.out.trans (H2.out.1.mono HA.out.size)).size (fun k hk => by rw [hk]; exact Nat.le_refl _))
  have hR3 := hc3.heap H2.out.2.2.2.2 (by omega)
  have ht3 := H2.out.2.1.keep hc3 (fun k hk e => by have := H2.out.2.2.1 k hk; have := H0.out.2.2; omega)
  generalize w2.setCell ⟨w.heap.size, 1, none⟩ (.pointer (some ⟨p, 0, none⟩)) = w3 at *
  obtain ⟨x0, x1, x2, xf⟩ := cells3 hT3
  have HB3 := Lib.hid (HH.out.2.2.keep (Chg.of_below hba3 (fun _ => False)) (fun _ _ h => h))
  have H3 := Lib.hid (And.intro hba3 (And.intro ht3 (And.intro hT3 hR3)))
  have hl16 := HH.out.1.len
  clear hT3 hc3 hba3 hR3 ht3 y0 y1 y2 yf
  go_wp2_with fail
  (with_reducible refine (Ls.all_any bp s.last s.l F2 w3 HB3.out (by omega)).mono ?_)
  rintro e w4 ⟨lo, lc, rfl, hb4, ho4⟩
  have HNW := Lib.hid (Ls.new_ok s.last lo s.l.length lc s.l w4 rfl ho4.row hl16 (fun k _ e he => HOK.out.good k e he))
  have H4 := Lib.hid hb4
  clear hb4 ho4
  go_wp2_with fail
  (with_reducible refine HNW.out.mono ?_)
  rintro e w5 ⟨q, G2, rfl, hb5, hk5, hg5⟩
  have hba5 : Below w3.heap.size w3 w5 := H4.out.trans (hb5.mono H4.out.size)
  have hT5 := (Chg.of_below hba5 (fun _ => False)).heap H3.out.2.2.1 (fun h => h)
  have hR5 := (Chg.of_below hba5 (fun _ => False)).heap H3.out.2.2.2 (fun h => h)
  have ht5 := H3.out.2.1.keep (Chg.of_below hba5 (fun _ => False)) (fun _ _ h => h)
  obtain ⟨v0, v1, v2, vf⟩ := cells3 hT5
  obtain ⟨r0, r1, r2, rf⟩ := cells3 hR5
  have H5 := Lib.hid (And.intro hba5 (And.intro hk5 (And.intro (fun k hk => Nat.le_trans H4.out.size (hg5 k hk)) (And.intro hT5 (And.intro hR5 ht5)))))
  clear hb5 hk5 hg5 hba5 hT5 hR5 ht5 x0 x1 x2 xf HNW
  go_wp2
  have hT6 := (Chg.one w5 w.heap.size 2 (.pointer (some ⟨q, 0, none⟩))).heap H5.out.2.2.2.2.1 (by omega)
  have hR6 := three_set (x := .int .u64 (s.now : Int)) (y := .pointer (some ⟨p, 0, none⟩)) (z := .pointer (some ⟨q, 0, none⟩)) hT6
  have hch : Chg (fun k => k = w.heap.size ∨ k = w.heap.size + 1) w5 ((((w5.setCell ⟨w.heap.size, 2, none⟩ (.pointer (some ⟨q, 0, none⟩))).setCell ⟨w.heap.size + 1, 0, none⟩ (.int .u64 (s.now : Int))).setCell ⟨w.heap.size + 1, 1, none⟩ (.pointer (some ⟨p, 0, none⟩))).setCell ⟨w.heap.size + 1, 2, none⟩ (.pointer (some ⟨q, 0, none⟩))) :=
    ((((Chg.refl _ w5).set (p := w.heap.size) (.inl rfl) 2 _).set (p := w.heap.size + 1) (.inr rfl) 0 _).set (p := w.heap.size + 1) (.inr rfl) 1 _).set (p := w.heap.size + 1) (.inr rfl) 2 _
  clear hT6 v0 v1 v2 vf r0 r1 r2 rf
  generalize (((w5.setCell ⟨w.heap.size, 2, none⟩ (.pointer (some ⟨q, 0, none⟩))).setCell ⟨w.heap.size + 1, 0, none⟩ (.int .u64 (s.now : Int))).setCell ⟨w.heap.size + 1, 1, none⟩ (.pointer (some ⟨p, 0, none⟩))).setCell ⟨w.heap.size + 1, 2, none⟩ (.pointer (some ⟨q, 0, none⟩)) = W6 at *
  obtain ⟨c0, c1, c2, _⟩ := cells3 hR6
  have hb5 : Below w.heap.size w w5 := H3.out.1.trans (H5.out.1.mono H3.out.1.size)
  have hg1 : ∀ k ∈ G1, w.heap.size + 2 ≤ k ∧ k < w3.heap.size := fun k hk => ⟨by have := H2.out.2.2.1 k hk; have := H0.out.2.2; omega, H3.out.2.1.lt k hk⟩
  have hg2 : ∀ k ∈ G2, w3.heap.size ≤ k := H5.out.2.2.1
  have hw3 : w.heap.size + 1 < w3.heap.size := heap_lt H3.out.2.2.2
  refine bodyPost_ret (v := stVal s p q) (w := W6) ?_ rfl ?_
  · simp [results, Tryz.results47, go_sem, c0, c1, c2]
    rfl
  · refine ⟨p, q, G1, G2, rfl, hb5.trans (hch.below hb5.size (fun k hk => by omega)), H5.out.2.2.2.2.2.keep hch (fun k hk h => by have := hg1 k hk; omega), H5.out.2.1.keep hch (fun k hk h => by have := hg2 k hk; omega), fun k hk => by have := hg1 k hk; omega, fun k hk => by have := hg2 k hk; omega, fun k hk hk2 => by have := hg1 k hk; have := hg2 k hk2; omega⟩
-- END2
end Go.Proofs.YtackmgmaippajaaGreat
