/-
  LAYER 8: a law's keeper beside the document's: did, shows.
-/
import Derived.Test.YtackmgmaippajaaGreatRk
namespace Go.Proofs.YtackmgmaippajaaGreat
open Go Go.RowKit

/-- The document's keeper, made behind w0: all its blocks are in B. -/
structure Rp (w0 w : World) (q r : Nat) (s : St) (d : Jr.Dsk) (B : List Nat) : Prop where
  at_ : ∃ cs sd G F D, LikeS s sd ∧ RkAt w q r cs sd d G F D ∧ (∀ k ∈ G, k ∈ B) ∧ (∀ k ∈ F, k ∈ B) ∧ ∀ k ∈ D, k ∈ B
  new : ∀ i ∈ B, w0.heap.size ≤ i
  lt : ∀ i ∈ B, i < w.heap.size
theorem Rp.keep {w0 w w' : World} {q r : Nat} {s : St} {d : Jr.Dsk} {B : List Nat} (h : Rp w0 w q r s d B) {S : Nat → Prop} (hc : Chg S w w') (hS : ∀ i ∈ B, ¬ S i) : Rp w0 w' q r s d B := by
  obtain ⟨cs, sd, G, F, D, h1, h2, h3, h4, h5⟩ := h.at_
  exact ⟨⟨cs, sd, G, F, D, h1, h2.keep hc (fun k hk => hS k (h3 k hk)) (fun k hk => hS k (h4 k hk)) (fun k hk => hS k (h5 k hk)), h3, h4, h5⟩, h.new, fun i hi => Nat.lt_of_lt_of_le (h.lt i hi) hc.size⟩
/-- Both, each in memory of its own. -/
structure Duo (w0 w : World) (k p : Nat) (B : List Nat) (n : Nat) (q r : Nat) (B2 : List Nat) (s : St) (d : Jr.Dsk) : Prop where
  one : Kp w0 w k p s d B n
  two : Rp w0 w q r s d B2
  apart : ∀ i ∈ B, i ∉ B2
section
variable {w0 w w' : World} {k p n q r : Nat} {s : St} {d : Jr.Dsk} {B B2 : List Nat}
theorem Duo.keep (h : Duo w0 w k p B n q r B2 s d) {S : Nat → Prop} (hc : Chg S w w') (h1 : ∀ i ∈ B, ¬ S i) (h2 : ∀ i ∈ B2, ¬ S i) (hb : ∀ i, S i → w0.heap.size ≤ i) : Duo w0 w' k p B n q r B2 s d := ⟨h.one.keep hc h1 hb, h.two.keep hc h2, h.apart⟩
theorem Duo.stays (h : Duo w0 w k p B n q r B2 s d) (hb : Below w.heap.size w w') : Duo w0 w' k p B n q r B2 s d :=
  ⟨h.one.stays hb, h.two.keep (Chg.of_below hb (fun _ => False)) (fun _ _ h => h), h.apart⟩
theorem Duo.more (h : Duo w0 w k p B n q r B2 s d) (m : Nat) (hm : n ≤ m) : Duo w0 w k p B m q r B2 s d := ⟨h.one.more' (w' := w) m hm, h.two, h.apart⟩
end
/-- The document's Do at a law's own keeper. -/
theorem rdo_in (w0 : World) (q r : Nat) (s s' : St) (d d' : Jr.Dsk) (B : List Nat) (c : Cm) (vo : Option Addr) (vc : Nat) (NI : Int) (N M : Nat) (gone : List Nat) (code : Int) (w : World) (h : Rp w0 w q r s d B) (hw : w0.heap.size ≤ w.heap.size) (hs : s.Ok) (hs' : (doS s c).1.Ok) (hc : c.Fit) (hv : Bts w vo c.val)
    (hr : doK s d c = ((s', d'), N, gone, code)) (hN : NI = (N : Int)) (hM : gone.length = M) :
    Calls Tryz.prog 51 #[.pointer (some ⟨q, 0, none⟩), .agg #[.int .u8 (c.kind : Int), .string c.key, .slice vo c.val.length vc, .int .u64 (c.want : Int), .int .u64 (c.sess : Int), .int .u64 (c.ticks : Int)]] w fun e w' => ∃ uo uc, e = .returned (.tuple #[.int .u64 NI, .slice uo M uc, .int .i64 code]) ∧ Own w' 1 uo M uc (gone.map Ls.idCell) ∧ (∀ a, uo = some a → w.heap.size ≤ a.block) ∧
      ∃ B', Rp w0 w' q r s' d' B' ∧ Chg (· ∈ B) w w' ∧ ∀ i ∈ B', i ∈ B ∨ w.heap.size ≤ i := by
  subst hN hM
  obtain ⟨cs, sd, G, F, D, h1, h2, h3, h4, h5⟩ := h.at_
  refine (rkeeper_do q r cs s sd d G F D c vo vc w h2 h1 hs hs' hc hv).mono ?_
  rintro e w' ⟨uo, uc, rfl, ho, hx, sd', cs', G', F', D', g1, g2, g3, g4, g5, g6⟩
  rw [hr] at g1 g2 ho ⊢
  have hch : Chg (· ∈ B) w w' := g3.to fun i hi => hi.elim (fun e => e ▸ h3 _ h2.st.qG.1) (h5 i)
  have hB : ∀ i ∈ G' ++ F' ++ D', i ∈ B ∨ w.heap.size ≤ i := fun i hi => by
    simp only [List.mem_append] at hi
    rcases hi with (hi | hi) | hi
    · exact (g4 i hi).imp (h3 i) id
    · exact (g5 i hi).imp (h4 i) id
    · exact (g6 i hi).imp (h5 i) id
  refine ⟨uo, uc, rfl, ho, hx, G' ++ F' ++ D', ⟨⟨cs', sd', G', F', D', g1, g2, fun i hi => by simp [hi], fun i hi => by simp [hi], fun i hi => by simp [hi]⟩, fun i hi => ?_, fun i hi => ?_⟩, hch, hB⟩
  · rcases hB i hi with h6 | h6
    · exact h.new i h6
    · omega
  · simp only [List.mem_append] at hi
    rcases hi with (hi | hi) | hi
    · exact g2.st.ltG i hi
    · exact g2.st.ltF i hi
    · exact g2.disk.lt i hi
/-- What a command leaves of both. -/
def DidD (w0 w w' : World) (k p n q r : Nat) (B B2 : List Nat) (s' : St) (d' : Jr.Dsk) : Prop :=
  ∃ B' B2', Duo w0 w' k p B' n q r B2' s' d' ∧ Chg (fun i => i ∈ B ∨ i ∈ B2) w w' ∧ (∀ i ∈ B', i ∈ B ∨ w.heap.size ≤ i) ∧ ∀ i ∈ B2', i ∈ B2 ∨ w.heap.size ≤ i
-- BEGIN1
set_option maxHeartbeats 4000000 in
set_option maxRecDepth 100000 in
theorem did_any (w0 : World) (k p n q r : Nat) (s s' : St) (d d' : Jr.Dsk) (B B2 : List Nat) (c : Cm) (vo : Option Addr) (vc : Nat) (N : Nat) (gone : List Nat) (code : Int) (w : World) (h : Duo w0 w k p B n q r B2 s d) (hn : n < 1000000) (hl : s.ps.length ≤ 200) (hc : c.Fit) (hv : Bts w0 vo c.val) (hr : doK s d c = ((s', d'), N, gone, code)) :
    Calls Tryz.prog 22 #[.pointer (some ⟨k, 0, none⟩), .pointer (some ⟨q, 0, none⟩), .agg #[.int .u8 (c.kind : Int), .string c.key, .slice vo c.val.length vc, .int .u64 (c.want : Int), .int .u64 (c.sess : Int), .int .u64 (c.ticks : Int)]] w fun e w' => e = .returned (.bool true) ∧ DidD w0 w w' k p (n + 1) q r B B2 s' d' := by
  have HH := Lib.hid (And.intro h (And.intro hc (And.intro hv hr)))
  clear h hc hv hr
  go_enter Tryz.func22, Tryz.ntmps22
  go_upto_region 1 with fail
  have hbA := (Below.refl w.heap.size w).alloc (Nat.le_refl _) (.cells #[.int .u8 (c.kind : Int), .string c.key, .slice vo c.val.length vc, .int .u64 (c.want : Int), .int .u64 (c.sess : Int), .int .u64 (c.ticks : Int)] 39)
  have HT := Lib.hid (heap_top w (.cells #[.int .u8 (c.kind : Int), .string c.key, .slice vo c.val.length vc, .int .u64 (c.want : Int), .int .u64 (c.sess : Int), .int .u64 (c.ticks : Int)] 39))
  have HA := Lib.hid (And.intro (HH.out.1.stays hbA) (And.intro (HH.out.2.2.1.below (HH.out.1.stays hbA).one.below) hbA))
  clear hbA
  generalize w.alloc (.cells #[.int .u8 (c.kind : Int), .string c.key, .slice vo c.val.length vc, .int .u64 (c.want : Int), .int .u64 (c.sess : Int), .int .u64 (c.ticks : Int)] 39) = wa at *
  obtain ⟨T, hTq⟩ : ∃ T, w.heap.size = T := ⟨_, rfl⟩
  have HTB := Lib.hid (show (∀ i ∈ B, i < T) ∧ ∀ i ∈ B2, i < T from ⟨fun i hi => hTq ▸ HH.out.1.one.lt i hi, fun i hi => hTq ▸ HH.out.1.two.lt i hi⟩)
  rw [hTq] at HT ⊢
  obtain ⟨a0, a1, a2, a3, a4, a5⟩ := cells6 HT.out (Below.refl _ _)
  go_upto_region 2 with (go_at_call 18; (with_reducible refine (do_kp w0 k p n s s' d d' B c vo vc (N : Int) N _ gone code _ HA.out.1.one hn hl HH.out.2.1 HA.out.2.1 HH.out.2.2.2 rfl rfl).mono ?_); rintro e w1 ⟨uo, uc, rfl, ho, hx, B', hk, hch, hB⟩; have hT1 := hch.heap HT.out (fun e => Nat.lt_irrefl T (HTB.out.1 T e)); obtain ⟨b0, b1, b2, b3, b4, b5⟩ := cells6 hT1 (Below.refl _ _); have H1 := Lib.hid (And.intro hk (And.intro (HA.out.1.two.keep hch (fun i hi h2 => HH.out.1.apart i h2 hi)) (And.intro hch (And.intro hB (And.intro ho (And.intro hx hT1)))))); clear hk hch hB ho hx hT1)
  have HV1 := Lib.hid (HH.out.2.2.1.below H1.out.1.below)
  have hok := (HH.out.1.one.fit.did (by omega) HH.out.2.1).ok
  have HOK := Lib.hid hok
  clear hok a0 a1 a2 a3 a4 a5
  go_upto_region 3 with (go_at_call 51; (with_reducible refine (rdo_in w0 q r s s' d d' B2 c vo vc (N : Int) N _ gone code _ H1.out.2.1 H1.out.1.below.size HH.out.1.one.fit.ok HOK.out HH.out.2.1 HV1.out HH.out.2.2.2 rfl rfl).mono ?_); rintro e w2 ⟨yo, yc, rfl, ho2, hx2, B2', hk2, hch2, hB2⟩; have H2 := Lib.hid (And.intro hk2 (And.intro hch2 (And.intro hB2 ho2))); clear hk2 hch2 hB2 hx2 ho2)
  have hw1 := HA.out.2.2.size
  have hduo : Duo w0 w2 k p B' (n + 1) q r B2' s' d' := by
    have hdis : ∀ i ∈ B', i ∉ B2 := fun i hi h2 => (H1.out.2.2.2.1 i hi).elim (fun h => HH.out.1.apart i h h2) (fun h => by have := HA.out.1.two.lt i h2; omega)
    refine ⟨H1.out.1.keep H2.out.2.1 (fun i hi h2 => hdis i hi h2) (fun i hi => HH.out.1.two.new i hi), H2.out.1, fun i hi h2 => ?_⟩
    rcases H2.out.2.2.1 i h2 with h3 | h3
    · exact hdis i hi h3
    · have := H1.out.1.lt i hi; omega
  have hchg : Chg (fun i => i ∈ B ∨ i ∈ B2) w w2 := ((Chg.of_below HA.out.2.2 _).trans H1.out.2.2.1 (fun i hi h => .inl h)).trans H2.out.2.1 (fun i hi h => .inr h)
  have hog := H1.out.2.2.2.2.1.keep H2.out.2.1 (fun a ha h2 => by have := H1.out.2.2.2.2.2.1 a ha; have := HA.out.1.two.lt _ h2; omega)
  have hmx := hog.max
  have hle := hog.le
  unfold maxLen at hmx
  have H3 := Lib.hid (And.intro hduo (And.intro hchg (And.intro hog H2.out.2.2.2)))
  clear hduo hchg hog b0 b1 b2 b3 b4 b5
  go_wp2
  go_loopg [45] gone.length (fun g i wx => ∃ j : Nat, g + j = gone.length ∧ i = .int .i64 (j : Int) ∧ Below w2.heap.size w2 wx)
  case atStart => exact ⟨0, by omega, rfl, Below.refl _ _⟩
  case round =>
    obtain ⟨j, hgj, rfl, hbx⟩ := hrel
    have HBX := Lib.hid hbx
    by_cases hj : j < gone.length
    · have hji : (j : Int) < (gone.length : Int) := by omega
      have hj0 : (0 : Int) ≤ (j : Int) := by omega
      obtain ⟨x, hxx⟩ : ∃ x, gone[j]? = some x := ⟨_, List.getElem?_eq_getElem hj⟩
      obtain ⟨b, off, rfl, hb⟩ := Ls.id_at (H3.out.2.2.1.keep (Chg.of_below hbx (fun _ => False)) (fun _ _ h => h)) hxx
      obtain ⟨b', off', rfl, hb'⟩ := Ls.id_at (H3.out.2.2.2.keep (Chg.of_below hbx (fun _ => False)) (fun _ _ h => h)) hxx
      clear hxx hbx
      go_wp2
      go_quiet (fail)
      have hbq := below_drewN HBX.out nq
      go_wp2
      go_roundg (gk - 1)
      case measure => omega
      case rel => exact ⟨j + 1, by omega, by go_num, hbq⟩
    · obtain rfl : j = gone.length := by omega
      have hjj : ¬ ((gone.length : Nat) : Int) < ((gone.length : Nat) : Int) := by omega
      clear hbx
      go_wp2
      go_ret
      exact ⟨rfl, B', B2', H3.out.1.stays HBX.out, H3.out.2.1.trans (Chg.of_below HBX.out (fun _ => False)) (fun _ _ h => h.elim), fun i hi => (H1.out.2.2.2.1 i hi).imp id (Nat.le_trans hw1), fun i hi => (H2.out.2.2.1 i hi).imp id (fun h => by have := H1.out.2.2.1.size; omega)⟩
-- END1
end Go.Proofs.YtackmgmaippajaaGreat
