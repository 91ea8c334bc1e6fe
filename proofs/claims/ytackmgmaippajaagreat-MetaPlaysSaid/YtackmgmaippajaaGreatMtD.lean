/-
  LAYER 8: a keeper in memory; Do.
-/
import Derived.Test.YtackmgmaippajaaGreatMtB
import Derived.Test.YtackmgmaippajaaGreatFJ
namespace Go.Proofs.YtackmgmaippajaaGreat
open Go Go.RowKit

/-- A keeper at block k: its state's cells, its journal's address. -/
structure KeepAt (w : World) (k p : Nat) (s : St) (d : Jr.Dsk) (kp bp j : Nat) (F1 F2 G : List Nat) : Prop where
  st : StAt w k #[.int .u64 (s.now : Int), .pointer (some ⟨kp, 0, none⟩), .pointer (some ⟨bp, 0, none⟩), .pointer (some ⟨j, 0, none⟩)] 112 s kp bp F1 F2
  jour : Jr.JourAt w j p d G
  kG : k ∉ G
  kj : k ≠ j
  j1 : j ∉ F1
  j2 : j ∉ F2
  G1 : ∀ i ∈ G, i ∉ F1
  G2 : ∀ i ∈ G, i ∉ F2
theorem KeepAt.keep {w w' : World} {k p kp bp j : Nat} {s : St} {d : Jr.Dsk} {F1 F2 G : List Nat} (h : KeepAt w k p s d kp bp j F1 F2 G) {S : Nat → Prop} (hc : Chg S w w') (h0 : ¬ S k) (h1 : ∀ i ∈ F1, ¬ S i) (h2 : ∀ i ∈ F2, ¬ S i) (h3 : ∀ i ∈ G, ¬ S i) (h4 : ¬ S j) : KeepAt w' k p s d kp bp j F1 F2 G :=
  ⟨h.st.keep hc h0 h1 h2, ⟨h.jour.disk.keep hc h3, hc.heap h.jour.jr h4, h.jour.out⟩, h.kG, h.kj, h.j1, h.j2, h.G1, h.G2⟩
theorem KeepAt.stays {w w' : World} {k p kp bp j : Nat} {s : St} {d : Jr.Dsk} {F1 F2 G : List Nat} (h : KeepAt w k p s d kp bp j F1 F2 G) (hb : Below w.heap.size w w') : KeepAt w' k p s d kp bp j F1 F2 G :=
  h.keep (Chg.of_below hb (fun _ => False)) (fun h => h) (fun _ _ h => h) (fun _ _ h => h) (fun _ _ h => h) (fun h => h)
theorem KeepAt.disk' {w w' : World} {k p kp bp j : Nat} {s : St} {d d' : Jr.Dsk} {F1 F2 G : List Nat} (h : KeepAt w k p s d kp bp j F1 F2 G) (hd : Jr.DiskDid w p d' G w') : ∃ G', KeepAt w' k p s d' kp bp j F1 F2 G' ∧ Chg (· ∈ G) w w' ∧ Grew w G G' := by
  obtain ⟨G', h1, h2, h3⟩ := hd
  refine ⟨G', ⟨h.st.keep h2 h.kG (fun i hi hg => h.G1 i hg hi) (fun i hi hg => h.G2 i hg hi), h.jour.wrote h1 h2 h3, fun hk => ?_, h.kj, h.j1, h.j2, fun i hi hf => ?_, fun i hi hf => ?_⟩, h2, h3⟩
  · rcases h3 _ hk with hk | hk
    · exact h.kG hk
    · have := heap_lt h.st.heap; omega
  · rcases h3 _ hi with hi | hi
    · exact h.G1 i hi hf
    · have := h.st.tree.lt i hf; omega
  · rcases h3 _ hi with hi | hi
    · exact h.G2 i hi hf
    · have := h.st.book.lt i hf; omega
/-- The blocks of a keeper. -/
def keepB (k j : Nat) (F1 F2 G : List Nat) : List Nat := k :: j :: (F1 ++ F2 ++ G)
theorem KeepAt.lt {w : World} {k p kp bp j : Nat} {s : St} {d : Jr.Dsk} {F1 F2 G : List Nat} (h : KeepAt w k p s d kp bp j F1 F2 G) : ∀ i ∈ keepB k j F1 F2 G, i < w.heap.size := by
  intro i hi
  simp only [keepB, List.mem_cons, List.mem_append] at hi
  rcases hi with rfl | rfl | (hi | hi) | hi
  · exact heap_lt h.st.heap
  · exact heap_lt h.jour.jr
  · exact h.st.tree.lt i hi
  · exact h.st.book.lt i hi
  · exact h.jour.disk.lt i hi
/-- A keeper that was made behind w0; B: its blocks. -/
def Kpr (w0 w : World) (k p : Nat) (s : St) (d : Jr.Dsk) (B : List Nat) : Prop :=
  ∃ kp bp j F1 F2 G, KeepAt w k p s d kp bp j F1 F2 G ∧ B = keepB k j F1 F2 G ∧ (∀ i ∈ B, w0.heap.size ≤ i) ∧ Below w0.heap.size w0 w ∧ s.Ok
/-- What a command answers, and leaves: the state, the disk. -/
def doK (s : St) (d : Jr.Dsk) (c : Cm) : (St × Jr.Dsk) × Nat × List Nat × Int :=
  if (doS s c).2.2.2 ≠ 0 then ((s, d), 0, [], (doS s c).2.2.2) else
  if 4096 < (rec (doS s c).1 c).length then ((s, d), 0, [], 3) else
  if d.room - d.b.length < (rec (doS s c).1 c).length + 8 then ((s, d), 0, [], 8) else
  (((doS s c).1, ⟨d.room, (d.b ++ frame (rec (doS s c).1 c)).length, d.b ++ frame (rec (doS s c).1 c)⟩), (doS s c).2.1, (doS s c).2.2.1, 0)
/-- A record is made as it is said. -/
def RecOk (s : St) (c : Cm) : Prop := ∀ (kp bp : Nat) (F1 F2 : List Nat) (vo : Option Addr) (vc : Nat) (w : World), Tr.TreeAt w kp s.ps F1 → Ls.BookAt w bp s.last s.l F2 → Bts w vo c.val →
  Calls Tryz.prog 50 #[stVal s kp bp, .agg (c.cells vo vc)] w fun e w' => ∃ bo cap, e = .returned (.slice bo (rec s c).length cap) ∧ Below w.heap.size w w' ∧ Own w' 1 bo (rec s c).length cap ((rec s c).map cb) ∧ ∀ a, bo = some a → w.heap.size ≤ a.block
theorem RecOk.cmd {s : St} {c : Cm} (hc : c.Fit) (hk : c.kind ≠ 7) : RecOk s c := by
  intro kp bp F1 F2 vo vc w _ _ hv
  have := rec_cmd (.int .u64 (s.now : Int)) (.pointer (some ⟨kp, 0, none⟩)) (.pointer (some ⟨bp, 0, none⟩)) c vo vc w hc hk hv
  unfold rec
  rw [if_neg hk]
  exact this
theorem St.Ok.wk {s : St} (h : s.Ok) : s.Wk := ⟨h.fine, h.now, h.last, h.len, fun e he => by
  obtain ⟨k, hk⟩ := List.mem_iff_getElem?.1 he
  have := (h.good k e hk).2.2.2.1
  omega⟩
/-- What Do leaves. -/
def DidK (_w0 w : World) (k p : Nat) (r : (St × Jr.Dsk) × Nat × List Nat × Int) (B : List Nat) (e : Ending) (w' : World) : Prop :=
  ∃ uo uc, e = .returned (.tuple #[.int .u64 (r.2.1 : Int), .slice uo r.2.2.1.length uc, .int .i64 r.2.2.2]) ∧ Own w' 1 uo r.2.2.1.length uc (r.2.2.1.map Ls.idCell) ∧ (∀ a, uo = some a → w.heap.size ≤ a.block) ∧
    (∃ kp bp j F1 F2 G, KeepAt w' k p r.1.1 r.1.2 kp bp j F1 F2 G ∧ ∀ i ∈ keepB k j F1 F2 G, i ∈ B ∨ w.heap.size ≤ i) ∧ Chg (· ∈ B) w w'
/-- What Do's drawn line reads. -/
def Sees9 (w : World) (k j SB : Nat) (v0 v1 v2 : Value) (T : Nat) (c0 c1 c2 c3 c4 c5 : Value) : Prop :=
  w.cell? ⟨k, 3, none⟩ = some (.pointer (some ⟨j, 0, none⟩)) ∧ (w.cell? ⟨SB, 0, none⟩ = some v0 ∧ w.cell? ⟨SB, 1, none⟩ = some v1 ∧ w.cell? ⟨SB, 2, none⟩ = some v2) ∧
  (w.cell? ⟨T, 0, none⟩ = some c0 ∧ w.cell? ⟨T, 1, none⟩ = some c1 ∧ w.cell? ⟨T, 2, none⟩ = some c2 ∧ w.cell? ⟨T, 3, none⟩ = some c3 ∧ w.cell? ⟨T, 4, none⟩ = some c4 ∧ w.cell? ⟨T, 5, none⟩ = some c5)
theorem Sees9.keep {w w' : World} {k j SB T : Nat} {v0 v1 v2 c0 c1 c2 c3 c4 c5 : Value} (h : Sees9 w k j SB v0 v1 v2 T c0 c1 c2 c3 c4 c5) {S : Nat → Prop} (hc : Chg S w w') (hk : ¬ S k) (hs : ¬ S SB) (ht : ¬ S T) : Sees9 w' k j SB v0 v1 v2 T c0 c1 c2 c3 c4 c5 :=
  ⟨hc.cell h.1 hk, ⟨hc.cell h.2.1.1 hs, hc.cell h.2.1.2.1 hs, hc.cell h.2.1.2.2 hs⟩, hc.cell h.2.2.1 ht, hc.cell h.2.2.2.1 ht, hc.cell h.2.2.2.2.1 ht, hc.cell h.2.2.2.2.2.1 ht, hc.cell h.2.2.2.2.2.2.1 ht, hc.cell h.2.2.2.2.2.2.2 ht⟩
-- BEGIN1
set_option maxHeartbeats 4000000 in
set_option maxRecDepth 100000 in
theorem keeper_do (k p kp bp j : Nat) (s : St) (d : Jr.Dsk) (F1 F2 G : List Nat) (c : Cm) (vo : Option Addr) (vc : Nat) (w0 w : World) (h : KeepAt w k p s d kp bp j F1 F2 G) (hs : s.Ok) (hc : c.Fit) (hv : Bts w vo c.val) (hR : RecOk (doS s c).1 c) (hlen : (rec (doS s c).1 c).length ≤ 1000000) :
    Calls Tryz.prog 18 #[.pointer (some ⟨k, 0, none⟩), .agg (c.cells vo vc)] w (DidK w0 w k p (doK s d c) (keepB k j F1 F2 G)) := by
  obtain ⟨kind, key, val, want, sess, ticks⟩ := c
  obtain ⟨C, hC⟩ : ∃ C : Cm, C = ⟨kind, key, val, want, sess, ticks⟩ := ⟨_, rfl⟩
  rw [← hC] at hR hlen ⊢
  have HCC := Lib.hid hC
  have hvv : Bts w vo val := hv
  have hcc : C.Fit := by rw [hC]; exact hc
  have HA := Lib.hid ((Below.refl w.heap.size w).alloc (Nat.le_refl _) (.cells (C.cells vo vc) 39))
  have hT := heap_top w (.cells (C.cells vo vc) 39)
  have hK := h.stays HA.out
  have HH := Lib.hid (And.intro h (And.intro hs (And.intro hcc (And.intro hvv (And.intro hR hlen)))))
  clear h hs hc hv hR hlen hcc hvv
  rw [hC] at hT hK
  dsimp only [Cm.cells] at hT hK
  have hA' : Below w.heap.size w (w.alloc (.cells #[.int .u8 (kind : Int), .string key, .slice vo val.length vc, .int .u64 (want : Int), .int .u64 (sess : Int), .int .u64 (ticks : Int)] 39)) := by have := HA.out; rw [hC] at this; exact this
  have HA2 := Lib.hid hA'
  clear hA' HA
  have HS := Lib.hid (size_alloc w (.cells #[.int .u8 (kind : Int), .string key, .slice vo val.length vc, .int .u64 (want : Int), .int .u64 (sess : Int), .int .u64 (ticks : Int)] 39))
  rw [show C.cells vo vc = #[.int .u8 (kind : Int), .string key, .slice vo val.length vc, .int .u64 (want : Int), .int .u64 (sess : Int), .int .u64 (ticks : Int)] by rw [hC]; rfl]
  clear hC
  go_enter Tryz.func18, Tryz.ntmps18
  go_upto_region 3 with fail
  generalize w.alloc (.cells #[.int .u8 (kind : Int), .string key, .slice vo val.length vc, .int .u64 (want : Int), .int .u64 (sess : Int), .int .u64 (ticks : Int)] 39) = wa at *
  obtain ⟨z0, z1, z2, zf⟩ := hK.st.cell
  have HB := Lib.hid (And.intro hT hK)
  have hcp := copied_any s kp bp F1 F2 wa HH.out.2.1 hK.st.tree hK.st.book
  unfold stVal at hcp
  have HCP := Lib.hid hcp
  clear hT hK hcp
  go_wp2_with fail
  (with_reducible refine HCP.out.mono ?_)
  rintro e w1 ⟨kp1, bp1, G1, G2, rfl, hb1, ht1, hk1, n1, n2, dis1⟩
  dsimp only [stVal]
  have hst : StAt (w1.alloc (.cells #[.int .u64 (s.now : Int), .pointer (some ⟨kp1, 0, none⟩), .pointer (some ⟨bp1, 0, none⟩)] 109)) w1.heap.size #[.int .u64 (s.now : Int), .pointer (some ⟨kp1, 0, none⟩), .pointer (some ⟨bp1, 0, none⟩)] 109 s kp1 bp1 G1 G2 := by
    have hbb := (Below.refl w1.heap.size w1).alloc (Nat.le_refl _) (.cells #[.int .u64 (s.now : Int), .pointer (some ⟨kp1, 0, none⟩), .pointer (some ⟨bp1, 0, none⟩)] 109)
    exact ⟨heap_top w1 _, rfl, rfl, rfl, ht1.keep (Chg.of_below hbb (fun _ => False)) (fun _ _ h => h), hk1.keep (Chg.of_below hbb (fun _ => False)) (fun _ _ h => h), fun hk => Nat.lt_irrefl _ (ht1.lt _ hk), fun hk => Nat.lt_irrefl _ (hk1.lt _ hk), dis1⟩
  have hb2 : Below wa.heap.size wa (w1.alloc (.cells #[.int .u64 (s.now : Int), .pointer (some ⟨kp1, 0, none⟩), .pointer (some ⟨bp1, 0, none⟩)] 109)) := hb1.alloc hb1.size _
  have HS1 := Lib.hid (And.intro (size_alloc w1 (.cells #[.int .u64 (s.now : Int), .pointer (some ⟨kp1, 0, none⟩), .pointer (some ⟨bp1, 0, none⟩)] 109)) hb1.size)
  have H1 := Lib.hid (And.intro n1 n2)
  clear hb1 ht1 hk1 n1 n2 dis1 HCP z0 z1 z2 zf
  go_upto_region 4 with fail
  generalize w1.alloc (.cells #[.int .u64 (s.now : Int), .pointer (some ⟨kp1, 0, none⟩), .pointer (some ⟨bp1, 0, none⟩)] 109) = w2 at *
  generalize hSB : w1.heap.size = SB at *
  have hT2 := (Chg.of_below hb2 (fun _ => False)).heap HB.out.1 (fun h => h)
  obtain ⟨a0, a1, a2, a3, a4, a5⟩ := cells6 hT2 (Below.refl _ _)
  have hcv : C.cells vo vc = #[.int .u8 (kind : Int), .string key, .slice vo val.length vc, .int .u64 (want : Int), .int .u64 (sess : Int), .int .u64 (ticks : Int)] := by rw [HCC.out]; rfl
  have hv2 : Bts w2 vo C.val := by rw [show C.val = val by rw [HCC.out]]; exact (HH.out.2.2.2.1.below HA2.out).below hb2
  have hdo := do_any s C vo vc SB kp1 bp1 _ _ G1 G2 w2 hst HH.out.2.1.wk HH.out.2.2.1 hv2
  rw [hcv] at hdo
  have HDO := Lib.hid hdo
  have HCV := Lib.hid hcv
  have H2 := Lib.hid (And.intro hb2 (And.intro hT2 (And.intro hst hv2)))
  clear hb2 hT2 hst hv2 hdo hcv
  go_wp2_with fail
  (with_reducible refine HDO.out.mono ?_)
  rintro e w3 ⟨uo, uc, rfl, ho3, hn3, F1', F2', hst3, hc3, hg31, hg32⟩
  have hwa1 : wa.heap.size ≤ SB := HS1.out.2
  have hw2s : w2.heap.size = SB + 1 := HS1.out.1
  have hb3 : Below wa.heap.size wa w3 := H2.out.1.trans (hc3.below H2.out.1.size (fun i hi => by
    rcases hi with hi | hi | hi
    · omega
    · exact H1.out.1 i hi
    · exact H1.out.2 i hi))
  have hT3 := (Chg.of_below hb3 (fun _ => False)).heap HB.out.1 (fun h => h)
  have hK3 := HB.out.2.stays hb3
  have hF1 : ∀ i ∈ F1', wa.heap.size ≤ i := fun i hi => (hg31 i hi).elim (H1.out.1 i) (fun h => by omega)
  have hF2 : ∀ i ∈ F2', wa.heap.size ≤ i := fun i hi => (hg32 i hi).elim (H1.out.2 i) (fun h => by omega)
  have huo : ∀ a, uo = some a → SB < a.block := fun a ha => by have := hn3 a ha; omega
  obtain ⟨R, hR⟩ : ∃ R, doS s C = R := ⟨_, rfl⟩
  rw [hR] at hst3 ho3
  obtain ⟨s', n', gone, code⟩ := R
  have HR := Lib.hid hR
  have HREC := Lib.hid (show RecOk s' C ∧ (rec s' C).length ≤ 1000000 by have := HH.out.2.2.2.2; rw [hR] at this; exact this)
  rw [hR]
  dsimp only at hst3 ho3
  have H3 := Lib.hid (And.intro hb3 (And.intro hK3 (And.intro hst3 (And.intro ho3 (And.intro hF1 (And.intro hF2 (And.intro huo hT3)))))))
  obtain ⟨y0, y1, y2, yf⟩ := hst3.cell
  obtain ⟨x0, x1, x2, x3, x4, x5⟩ := cells6 hT3 (Below.refl _ _)
  have x6 : w3.cell? ⟨k, 3, none⟩ = some (.pointer (some ⟨j, 0, none⟩)) := heap_cell hK3.st.heap 3
  clear hb3 hK3 hst3 ho3 hF1 hF2 huo hT3 hc3 hg31 hg32 hn3 HDO a0 a1 a2 a3 a4 a5 hR
  by_cases hz : code = 0
  · subst hz
    go_upto_region 7 with fail
    have H3d := Lib.hid (show Below wa.heap.size wa w3.drew ∧ KeepAt w3.drew k p s d kp bp j F1 F2 G ∧ StAt w3.drew SB (#[Value.int .u64 (s.now : Int), .pointer (some ⟨kp1, 0, none⟩), .pointer (some ⟨bp1, 0, none⟩)].setIfInBounds 0 (.int .u64 (s'.now : Int))) 109 s' kp1 bp1 F1' F2' ∧ Own w3.drew 1 uo gone.length uc (gone.map Ls.idCell) from ⟨H3.out.1.drew, H3.out.2.1.stays (Below.refl _ _).drew, H3.out.2.2.1.stays (Below.refl _ _).drew, H3.out.2.2.2.1.drew⟩)
    have hs0 : Sees9 w3.drew k j SB (.int .u64 (s'.now : Int)) (.pointer (some ⟨kp1, 0, none⟩)) (.pointer (some ⟨bp1, 0, none⟩)) w.heap.size (.int .u8 (kind : Int)) (.string key) (.slice vo val.length vc) (.int .u64 (want : Int)) (.int .u64 (sess : Int)) (.int .u64 (ticks : Int)) := ⟨x6, ⟨y0, y1, y2⟩, x0, x1, x2, x3, x4, x5⟩
    have HS0 := Lib.hid hs0
    have hS0 := hs0
    unfold Sees9 at hS0
    have hrc := HREC.out.1 kp1 bp1 F1' F2' vo vc w3.drew H3d.out.2.2.1.tree H3d.out.2.2.1.book (by rw [show C.val = val by rw [HCC.out]]; exact ((HH.out.2.2.2.1.below HA2.out).below H3d.out.1))
    rw [HCV.out] at hrc
    unfold stVal at hrc
    have HRC := Lib.hid hrc
    clear hrc hs0 x0 x1 x2 x3 x4 x5 x6 y0 y1 y2 yf
    have HKW := Lib.hid (show w.heap.size < wa.heap.size ∧ wa.heap.size ≤ SB ∧ SB < w3.heap.size ∧ (∀ i ∈ keepB k j F1 F2 G, i < w.heap.size) from ⟨by have := HS.out; omega, hwa1, H3.out.2.2.1.lt, HH.out.1.lt⟩)
    obtain ⟨L, hL⟩ : ∃ L, (rec s' C).length = L := ⟨_, rfl⟩
    have HL := Lib.hid hL
    rw [hL] at HRC
    have hL6 : L ≤ 1000000 := by rw [← hL]; exact HREC.out.2
    have hdok : doK s d C = (if 4096 < L then ((s, d), 0, [], 3) else if d.room - d.b.length < L + 8 then ((s, d), 0, [], 8) else ((s', ⟨d.room, (d.b ++ frame (rec s' C)).length, d.b ++ frame (rec s' C)⟩), n', gone, 0)) := by
      unfold doK; rw [HR.out]; simp only [hL]; exact if_neg (fun h => h rfl)
    have HDK := Lib.hid hdok
    clear hL hdok
    by_cases h4 : 4096 < L
    · have hd : doK s d C = ((s, d), 0, [], 3) := by rw [HDK.out, if_pos h4]
      have HD := Lib.hid hd
      clear hd
      go_region_held3 (fun wx => wx.cell? ⟨k, 3, none⟩ = some (.pointer (some ⟨j, 0, none⟩)) ∧ (wx.cell? ⟨SB, 0, none⟩ = some (.int .u64 (s'.now : Int)) ∧ wx.cell? ⟨SB, 1, none⟩ = some (.pointer (some ⟨kp1, 0, none⟩)) ∧ wx.cell? ⟨SB, 2, none⟩ = some (.pointer (some ⟨bp1, 0, none⟩))) ∧
          (wx.cell? ⟨w.heap.size, 0, none⟩ = some (.int .u8 (kind : Int)) ∧ wx.cell? ⟨w.heap.size, 1, none⟩ = some (.string key) ∧ wx.cell? ⟨w.heap.size, 2, none⟩ = some (.slice vo val.length vc) ∧ wx.cell? ⟨w.heap.size, 3, none⟩ = some (.int .u64 (want : Int)) ∧ wx.cell? ⟨w.heap.size, 4, none⟩ = some (.int .u64 (sess : Int)) ∧ wx.cell? ⟨w.heap.size, 5, none⟩ = some (.int .u64 (ticks : Int))))
        (first | exact hS0 | exact hS1 | exact hS2)
        (first
          | (go_at_call 50; (with_reducible refine HRC.out.mono ?_); rintro e w4 ⟨bo, cap, rfl, hb4, ho4, hn4⟩; have hs4 := HS0.out.keep (Chg.of_below hb4 (fun _ => False)) (fun h => h) (fun h => h) (fun h => h); have hS1 := hs4; unfold Sees9 at hS1; have H4 := Lib.hid (And.intro hb4 (And.intro ho4 (And.intro hs4 (H3d.out.2.1.stays hb4)))); clear hb4 ho4 hn4 hs4)
          | (go_at_call 49; (with_reducible refine (Jr.write_long j p d G bo L cap _ H4.out.2.2.2.jour h4 hL6).mono ?_); rintro e w5 ⟨rfl, rfl⟩; have hS2 := H4.out.2.2.1; unfold Sees9 at hS2))
      go_wp2
      go_ret3
      rw [HD.out]
      have hb4 : Below wa.heap.size wa w4 := H3d.out.1.trans (H4.out.1.mono H3d.out.1.size)
      exact ⟨none, 0, rfl, Own.nil' _ _, by simp, ⟨kp, bp, j, F1, F2, G, H4.out.2.2.2, fun i hi => .inl hi⟩, Chg.of_below (HA2.out.trans (hb4.mono HA2.out.size)) _⟩
    by_cases h5 : d.room - d.b.length < L + 8
    · have hd : doK s d C = ((s, d), 0, [], 8) := by rw [HDK.out, if_neg h4, if_pos h5]
      have HD := Lib.hid hd
      clear hd
      go_region_held3 (fun wx => wx.cell? ⟨k, 3, none⟩ = some (.pointer (some ⟨j, 0, none⟩)) ∧ (wx.cell? ⟨SB, 0, none⟩ = some (.int .u64 (s'.now : Int)) ∧ wx.cell? ⟨SB, 1, none⟩ = some (.pointer (some ⟨kp1, 0, none⟩)) ∧ wx.cell? ⟨SB, 2, none⟩ = some (.pointer (some ⟨bp1, 0, none⟩))) ∧
          (wx.cell? ⟨w.heap.size, 0, none⟩ = some (.int .u8 (kind : Int)) ∧ wx.cell? ⟨w.heap.size, 1, none⟩ = some (.string key) ∧ wx.cell? ⟨w.heap.size, 2, none⟩ = some (.slice vo val.length vc) ∧ wx.cell? ⟨w.heap.size, 3, none⟩ = some (.int .u64 (want : Int)) ∧ wx.cell? ⟨w.heap.size, 4, none⟩ = some (.int .u64 (sess : Int)) ∧ wx.cell? ⟨w.heap.size, 5, none⟩ = some (.int .u64 (ticks : Int))))
        (first | exact hS0 | exact hS1 | exact hS2)
        (first
          | (go_at_call 50; (with_reducible refine HRC.out.mono ?_); rintro e w4 ⟨bo, cap, rfl, hb4, ho4, hn4⟩; have hs4 := HS0.out.keep (Chg.of_below hb4 (fun _ => False)) (fun h => h) (fun h => h) (fun h => h); have hS1 := hs4; unfold Sees9 at hS1; have H4 := Lib.hid (And.intro hb4 (And.intro ho4 (And.intro hs4 (H3d.out.2.1.stays hb4)))); clear hb4 ho4 hn4 hs4)
          | (go_at_call 49; (with_reducible refine (Jr.write_full j p d G bo L cap _ _ H4.out.2.2.2.jour HL.out H4.out.2.1.bts (by omega) h5).mono ?_); rintro e w5 ⟨rfl, hd5⟩; obtain ⟨G', hk5, hc5, hg5⟩ := H4.out.2.2.2.disk' hd5; have hs5 := H4.out.2.2.1.keep hc5 H4.out.2.2.2.kG (fun hi => by have := HKW.out.2.2.2 SB (by simp [keepB, hi]); have := HKW.out.1; have := HKW.out.2.1; omega) (fun hi => by have := HKW.out.2.2.2 _ (show w.heap.size ∈ keepB k j F1 F2 G by simp [keepB, hi]); omega); have hS2 := hs5; unfold Sees9 at hS2; have H5 := Lib.hid (And.intro hk5 (And.intro hc5 hg5)); clear hd5 hk5 hc5 hg5 hs5))
      go_wp2
      go_ret3
      rw [HD.out]
      have hb4 : Below wa.heap.size wa w4 := H3d.out.1.trans (H4.out.1.mono H3d.out.1.size)
      have hbw : Below w.heap.size w w4 := HA2.out.trans (hb4.mono HA2.out.size)
      refine ⟨none, 0, rfl, Own.nil' _ _, by simp, ⟨kp, bp, j, F1, F2, G', H5.out.1, fun i hi => ?_⟩, (Chg.of_below hbw _).trans H5.out.2.1 (fun i _ hi => by simp [keepB, hi])⟩
      simp only [keepB, List.mem_cons, List.mem_append] at hi ⊢
      rcases hi with hi | hi | hi | hi
      · exact .inl (.inl hi)
      · exact .inl (.inr (.inl hi))
      · exact .inl (.inr (.inr (.inl hi)))
      · rcases H5.out.2.2 _ hi with hi | hi
        · exact .inl (.inr (.inr (.inr hi)))
        · exact .inr (Nat.le_trans hbw.size hi)
    · have hd : doK s d C = ((s', ⟨d.room, (d.b ++ frame (rec s' C)).length, d.b ++ frame (rec s' C)⟩), n', gone, 0) := by rw [HDK.out, if_neg h4, if_neg h5]
      have HD := Lib.hid hd
      clear hd
      go_region_held3 (fun wx => wx.cell? ⟨k, 3, none⟩ = some (.pointer (some ⟨j, 0, none⟩)) ∧ (wx.cell? ⟨SB, 0, none⟩ = some (.int .u64 (s'.now : Int)) ∧ wx.cell? ⟨SB, 1, none⟩ = some (.pointer (some ⟨kp1, 0, none⟩)) ∧ wx.cell? ⟨SB, 2, none⟩ = some (.pointer (some ⟨bp1, 0, none⟩))) ∧
          (wx.cell? ⟨w.heap.size, 0, none⟩ = some (.int .u8 (kind : Int)) ∧ wx.cell? ⟨w.heap.size, 1, none⟩ = some (.string key) ∧ wx.cell? ⟨w.heap.size, 2, none⟩ = some (.slice vo val.length vc) ∧ wx.cell? ⟨w.heap.size, 3, none⟩ = some (.int .u64 (want : Int)) ∧ wx.cell? ⟨w.heap.size, 4, none⟩ = some (.int .u64 (sess : Int)) ∧ wx.cell? ⟨w.heap.size, 5, none⟩ = some (.int .u64 (ticks : Int))))
        (first | exact hS0 | exact hS1 | exact hS2)
        (first
          | (go_at_call 50; (with_reducible refine HRC.out.mono ?_); rintro e w4 ⟨bo, cap, rfl, hb4, ho4, hn4⟩; have hs4 := HS0.out.keep (Chg.of_below hb4 (fun _ => False)) (fun h => h) (fun h => h) (fun h => h); have hS1 := hs4; unfold Sees9 at hS1; have H4 := Lib.hid (And.intro hb4 (And.intro ho4 (And.intro hs4 (H3d.out.2.1.stays hb4)))); clear hb4 ho4 hn4 hs4)
          | (go_at_call 49; (with_reducible refine (Jr.write_ok j p d G bo L cap _ _ H4.out.2.2.2.jour HL.out H4.out.2.1.bts (by omega) (by omega)).mono ?_); rintro e w5 ⟨rfl, hd5⟩; obtain ⟨G', hk5, hc5, hg5⟩ := H4.out.2.2.2.disk' hd5; have hs5 := H4.out.2.2.1.keep hc5 H4.out.2.2.2.kG (fun hi => by have := HKW.out.2.2.2 SB (by simp [keepB, hi]); have := HKW.out.1; have := HKW.out.2.1; omega) (fun hi => by have := HKW.out.2.2.2 _ (show w.heap.size ∈ keepB k j F1 F2 G by simp [keepB, hi]); omega); have hS2 := hs5; unfold Sees9 at hS2; obtain ⟨v0, v1, v2, vf⟩ := hk5.st.cell; have H5 := Lib.hid (And.intro hk5 (And.intro hc5 hg5)); clear hd5 hk5 hc5 hg5 hs5))
      go_wp2
      go_ret3
      rw [HD.out]
      have hg := heap_set (heap_set (heap_set H5.out.1.st.heap 0 (.int .u64 (s'.now : Int))) 1 (.pointer (some ⟨kp1, 0, none⟩))) 2 (.pointer (some ⟨bp1, 0, none⟩))
      simp only [List.setIfInBounds_toArray, List.set_cons_zero, List.set_cons_succ] at hg
      have hch : Chg (· = k) w5 (((w5.setCell ⟨k, 0, none⟩ (.int .u64 (s'.now : Int))).setCell ⟨k, 1, none⟩ (.pointer (some ⟨kp1, 0, none⟩))).setCell ⟨k, 2, none⟩ (.pointer (some ⟨bp1, 0, none⟩))) := (((Chg.refl (· = k) w5).set (p := k) rfl 0 _).set (p := k) rfl 1 _).set (p := k) rfl 2 _
      generalize ((w5.setCell ⟨k, 0, none⟩ (.int .u64 (s'.now : Int))).setCell ⟨k, 1, none⟩ (.pointer (some ⟨kp1, 0, none⟩))).setCell ⟨k, 2, none⟩ (.pointer (some ⟨bp1, 0, none⟩)) = w6 at *
      have hb4 : Below wa.heap.size wa w4 := H3d.out.1.trans (H4.out.1.mono H3d.out.1.size)
      have hbw : Below w.heap.size w w4 := HA2.out.trans (hb4.mono HA2.out.size)
      have hold := HKW.out.2.2.2
      have hkw : k < w.heap.size := hold k (by simp [keepB])
      have hjw : j < w.heap.size := hold j (by simp [keepB])
      have hGw : ∀ i ∈ G, i < w.heap.size := fun i hi => hold i (by simp [keepB, hi])
      have hww := HKW.out.1
      have hF1 := H3.out.2.2.2.2.1
      have hF2 := H3.out.2.2.2.2.2.1
      have hF1b : ∀ i ∈ F1', i < w4.heap.size := fun i hi => Nat.lt_of_lt_of_le (H3d.out.2.2.1.tree.lt i hi) H4.out.1.size
      have hF2b : ∀ i ∈ F2', i < w4.heap.size := fun i hi => Nat.lt_of_lt_of_le (H3d.out.2.2.1.book.lt i hi) H4.out.1.size
      have hst4 := H3d.out.2.2.1.stays H4.out.1
      have hg5 := H5.out.2.2
      refine ⟨uo, uc, rfl, ?_, fun a ha => by have := H3.out.2.2.2.2.2.2.1 a ha; have := HKW.out.2.1; omega, ⟨kp1, bp1, j, F1', F2', G', ⟨⟨hg, rfl, rfl, rfl, (hst4.tree.keep H5.out.2.1 (fun i hi hi2 => by have := hF1 i hi; have := hGw i hi2; omega)).keep hch (fun i hi e => by have := hF1 i hi; omega), (hst4.book.keep H5.out.2.1 (fun i hi hi2 => by have := hF2 i hi; have := hGw i hi2; omega)).keep hch (fun i hi e => by have := hF2 i hi; omega), fun hi => by have := hF1 k hi; omega, fun hi => by have := hF2 k hi; omega, hst4.apart⟩, ⟨H5.out.1.jour.disk.keep hch (fun i hi e => H5.out.1.kG (e ▸ hi)), hch.heap H5.out.1.jour.jr (fun e => H5.out.1.kj e.symm), H5.out.1.jour.out⟩, H5.out.1.kG, H5.out.1.kj, fun hi => by have := hF1 j hi; omega, fun hi => by have := hF2 j hi; omega, fun i hi hf => ?_, fun i hi hf => ?_⟩, fun i hi => ?_⟩, ((Chg.of_below hbw _).trans H5.out.2.1 (fun i _ hi => by simp [keepB, hi])).trans hch (fun i _ hi => by simp [keepB, hi])⟩
      · have ho4 := H3d.out.2.2.2.keep (Chg.of_below H4.out.1 (fun _ => False)) (fun _ _ h => h)
        exact (ho4.keep H5.out.2.1 (fun a ha hi => by have := H3.out.2.2.2.2.2.2.1 a ha; have := hGw _ hi; have := HKW.out.2.1; omega)).keep hch (fun a ha e => by have := H3.out.2.2.2.2.2.2.1 a ha; have := HKW.out.2.1; omega)
      · rcases hg5 i hi with h | h
        · have := hF1 i hf; have := hGw i h; omega
        · have := hF1b i hf; omega
      · rcases hg5 i hi with h | h
        · have := hF2 i hf; have := hGw i h; omega
        · have := hF2b i hf; omega
      · simp only [keepB, List.mem_cons, List.mem_append] at hi ⊢
        rcases hi with hi | hi | (hi | hi) | hi
        · exact .inl (.inl hi)
        · exact .inl (.inr (.inl hi))
        · have := hF1 i hi; exact .inr (by omega)
        · have := hF2 i hi; exact .inr (by omega)
        · rcases hg5 i hi with hi | hi
          · exact .inl (.inr (.inr (.inr hi)))
          · exact .inr (Nat.le_trans hbw.size hi)
  · have hzi : ((code : Int) != 0) = true := by simpa using hz
    go_wp2
    go_ret3
    have hd : doK s d C = ((s, d), 0, [], code) := by unfold doK; rw [HR.out]; exact if_pos hz
    rw [hd]
    have hbw : Below w.heap.size w w3 := HA2.out.trans (H3.out.1.mono HA2.out.size)
    exact ⟨none, 0, rfl, Own.nil' _ _, by simp, ⟨kp, bp, j, F1, F2, G, H3.out.2.1, fun i hi => .inl hi⟩, Chg.of_below hbw _⟩
-- END1
end Go.Proofs.YtackmgmaippajaaGreat
