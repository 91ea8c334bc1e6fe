/-
  LAYER 8: snap: a state as it was written.
-/
import Derived.Test.YtackmgmaippajaaGreatMtVa
namespace Go.Proofs.YtackmgmaippajaaGreat
open Go Go.RowKit

/-- What snap makes of bytes. -/
def SnapGood (bs : List UInt8) (s : St) (r : List UInt8) : Prop := snapP bs = some ((s.now, s.last, s.l, s.ps), r) ∧ GoodB s.last s.l ∧ GoodT s.ps ∧ s.now ≤ 1099511627776
def SnapBad (bs : List UInt8) : Prop := ∀ s r, ¬ SnapGood bs s r
def SnapPost (p : Nat) (D : Option Nat) (bs : List UInt8) (w : World) (e : Ending) (w' : World) : Prop :=
  (∃ code : Int, code ≠ 0 ∧ SnapBad bs ∧ e = .panicked (thrown code) ∧ Chg (· = p) w w') ∨
  ∃ s r kp bp F1 F2, SnapGood bs s r ∧ e = .returned (stVal s kp bp) ∧ RdrAt w' p D r ∧ Tr.TreeAt w' kp s.ps F1 ∧ Ls.BookAt w' bp s.last s.l F2 ∧ (∀ i ∈ F1, w.heap.size ≤ i) ∧ (∀ i ∈ F2, w.heap.size ≤ i) ∧ (∀ i ∈ F1, i ∉ F2) ∧ Chg (· = p) w w'
theorem SnapBad.none {bs : List UInt8} (h : snapP bs = none) : SnapBad bs := by
  rintro s r ⟨h1, _⟩
  rw [h] at h1
  cases h1
theorem SnapBad.of {bs r : List UInt8} {now last : Nat} {l : List Ls.Sess} {ps : List Tr.Pl} (h : snapP bs = some ((now, last, l, ps), r)) (hb : ¬ (GoodB last l ∧ GoodT ps ∧ now ≤ 1099511627776)) : SnapBad bs := by
  rintro s r2 ⟨h1, h2, h3, h4⟩
  rw [h] at h1
  simp only [Option.some.injEq, Prod.mk.injEq] at h1
  obtain ⟨⟨rfl, rfl, rfl, rfl⟩, _⟩ := h1
  exact hb ⟨h2, h3, h4⟩
/-- Sessions that were read, one behind the other. -/
structure SnL (wb wr : World) (p N : Nat) (D : Option Nat) (n k : Nat) (bs1 r : List UInt8) (l : List Ls.Sess) (xo : Option Addr) (xc : Nat) : Prop where
  rdr : RdrAt wr p D r
  own : Own wr 3 xo k xc (l.flatMap Ls.Sess.cells)
  len : l.length = k
  new : ∀ a, xo = some a → N ≤ a.block
  chg : Chg (· = p) wb wr
  small : r.length ≤ bs1.length
  many_ : many sessP n bs1 = (many sessP (n - k) r).map (fun q => (l ++ q.1, q.2))
theorem sess_one {r ra rb rc : List UInt8} {a b c : Nat} (h1 : rdN 8 r = some (a, ra)) (h2 : rdN 8 ra = some (b, rb)) (h3 : rdN 8 rb = some (c, rc)) : sessP r = some (⟨a, b, c⟩, rc) := by
  unfold sessP; rw [h1]; simp only [h2, h3]
theorem SnL.bad {wb wr : World} {p N n k : Nat} {D : Option Nat} {bs1 r : List UInt8} {l : List Ls.Sess} {xo : Option Addr} {xc : Nat} (h : SnL wb wr p N D n k bs1 r l xo xc) (hk : k < n) (hf : sessP r = none) : many sessP n bs1 = none := by
  rw [h.many_, show n - k = n - k - 1 + 1 by omega, many_none hf]; rfl
theorem SnL.all {wb wr : World} {p N n : Nat} {D : Option Nat} {bs1 r : List UInt8} {l : List Ls.Sess} {xo : Option Addr} {xc : Nat} (h : SnL wb wr p N D n n bs1 r l xo xc) : many sessP n bs1 = some (l, r) := by
  rw [h.many_, Nat.sub_self, many]; simp
theorem SnL.zero {wb wr : World} {p N n : Nat} {D : Option Nat} {bs1 : List UInt8} (h : RdrAt wr p D bs1) (hc : Chg (· = p) wb wr) : SnL wb wr p N D n 0 bs1 bs1 [] none 0 :=
  ⟨h, Own.nil' _ _, rfl, by simp, hc, Nat.le_refl _, by simp⟩
theorem SnL.next {wb wr w8 W8 w9 : World} {p n k a b c : Nat} {D : Option Nat} {bs1 r rc : List UInt8} {l : List Ls.Sess} {xo xo' : Option Addr} {xc xc' : Nat} (h : SnL wb wr p wb.heap.size D n k bs1 r l xo xc) (hk : k < n) (hf : sessP r = some (⟨a, b, c⟩, rc)) (hl : rc.length ≤ r.length) (hp : p < wb.heap.size) (hD : ∀ i, D = some i → i < wb.heap.size)
    (h8 : RdrAt w8 p D rc) (hc8 : Chg (· = p) wr w8) (hb8 : Below w8.heap.size w8 W8) (hx : Own w9 3 xo' (k + 1) xc' (l.flatMap Ls.Sess.cells ++ Ls.Sess.cells ⟨a, b, c⟩)) (hch : Chg (fun j => ∃ a, xo = some a ∧ a.block = j) W8 w9) (hx2 : ∀ a', xo' = some a' → xo = some a' ∨ W8.heap.size ≤ a'.block) :
    SnL wb w9 p wb.heap.size D n (k + 1) bs1 rc (l ++ [⟨a, b, c⟩]) xo' xc' := by
  have hc := (h.chg.trans hc8 (fun _ _ h => h)).trans (Chg.of_below hb8 (fun _ => False)) (fun _ _ h => h.elim)
  refine ⟨(h8.keep' hb8).keep hch (fun ⟨a, ha, e⟩ => by have := h.new a ha; omega) (fun i hi ⟨a, ha, e⟩ => by have := h.new a ha; have := hD i hi; omega), by simpa using hx, by rw [List.length_append, h.len]; rfl, fun a' ha' => ?_, hc.trans hch (fun i hi ⟨a, ha, e⟩ => by have := h.new a ha; omega), Nat.le_trans hl h.small, ?_⟩
  · rcases hx2 a' ha' with h1 | h1
    · exact h.new a' h1
    · exact Nat.le_trans hc.size h1
  · rw [h.many_, show n - k = n - (k + 1) + 1 by omega, many_step hf]
    cases many sessP (n - (k + 1)) rc <;> simp
/-- Nodes that were read, one behind the other. -/
structure SnN (wb wr : World) (p : Nat) (D : Option Nat) (n k : Nat) (bs1 r : List UInt8) (es : List Nd) (xo : Option Addr) (xc : Nat) : Prop where
  rdr : RdrAt wr p D r
  own : Own wr 4 xo k xc (es.flatMap Nd.cells)
  len : es.length = k
  new : ∀ a, xo = some a → wb.heap.size ≤ a.block
  body : ∀ e ∈ es, Bts wr e.vo e.body ∧ (∀ a, e.vo = some a → wb.heap.size ≤ a.block) ∧ (e.body ≠ [] → ∀ a b, e.vo = some a → xo = some b → a.block ≠ b.block)
  chg : Chg (· = p) wb wr
  small : r.length ≤ bs1.length
  many_ : many nodP n bs1 = (many nodP (n - k) r).map (fun q => (es.map Nd.pl ++ q.1, q.2))
theorem SnN.bad {wb wr : World} {p n k : Nat} {D : Option Nat} {bs1 r : List UInt8} {es : List Nd} {xo : Option Addr} {xc : Nat} (h : SnN wb wr p D n k bs1 r es xo xc) (hk : k < n) (hf : nodP r = none) : many nodP n bs1 = none := by
  rw [h.many_, show n - k = n - k - 1 + 1 by omega, many_none hf]; rfl
theorem SnN.zero {wb wr : World} {p n : Nat} {D : Option Nat} {bs1 : List UInt8} (h : RdrAt wr p D bs1) (hc : Chg (· = p) wb wr) : SnN wb wr p D n 0 bs1 bs1 [] none 0 :=
  ⟨h, Own.nil' _ _, rfl, by simp, by simp, hc, Nat.le_refl _, by simp⟩
theorem bts_or {w : World} {ao : Option Addr} {bs : List UInt8} (h : bs ≠ [] → Bts w ao bs) : Bts w ao bs := fun hz => h (fun e => hz (by rw [e]; rfl)) hz
theorem SnN.next {wb wr w14 W w16 : World} {p n k c d vc : Nat} {D : Option Nat} {bs1 r rd body : List UInt8} {K : ByteArray} {vo : Option Addr} {es : List Nd} {xo xo' : Option Addr} {xc xc' : Nat} (h : SnN wb wr p D n k bs1 r es xo xc) (hk : k < n) (hf : nodP r = some (⟨K, body, c, d⟩, rd)) (hl : rd.length ≤ r.length) (hp : p < wb.heap.size) (hD : ∀ i, D = some i → i < wb.heap.size)
    (h14 : RdrAt w14 p D rd) (hc14 : Chg (· = p) wr w14) (hob : Bts w14 vo body) (hnew : ∀ a, vo = some a → wr.heap.size ≤ a.block) (hbW : Below w14.heap.size w14 W) (hx : Own w16 4 xo' (k + 1) xc' (es.flatMap Nd.cells ++ Nd.cells ⟨K, body, c, d, vo, vc⟩)) (hch : Chg (fun j => ∃ a, xo = some a ∧ a.block = j) W w16) (hx2 : ∀ a', xo' = some a' → xo = some a' ∨ W.heap.size ≤ a'.block) :
    SnN wb w16 p D n (k + 1) bs1 rd (es ++ [⟨K, body, c, d, vo, vc⟩]) xo' xc' := by
  have hcW := hc14.trans (Chg.of_below hbW (fun _ => False)) (fun _ _ h => h.elim)
  have hc := h.chg.trans hcW (fun _ _ h => h)
  have hs1 := h.chg.size
  refine ⟨(h14.keep' hbW).keep hch (fun ⟨a, ha, e⟩ => by have := h.new a ha; omega) (fun i hi ⟨a, ha, e⟩ => by have := h.new a ha; have := hD i hi; omega), by simpa using hx, by rw [List.length_append, h.len]; rfl, fun a' ha' => ?_, fun e he => ?_, hc.trans hch (fun i hi ⟨a, ha, e⟩ => by have := h.new a ha; omega), Nat.le_trans hl h.small, ?_⟩
  · rcases hx2 a' ha' with h1 | h1
    · exact h.new a' h1
    · exact Nat.le_trans hc.size h1
  · rcases List.mem_append.1 he with he | he
    · obtain ⟨b1, b2, b3⟩ := h.body e he
      refine ⟨bts_or fun hz => ?_, b2, fun hz a b ha hb => ?_⟩
      · exact hch.row (hcW.row b1 (fun a ha e => by have := b2 a ha; omega)) (fun a ha ⟨b, hb, e⟩ => b3 hz a b ha hb e.symm)
      · rcases hx2 b hb with h1 | h1
        · exact b3 hz a b ha h1
        · have := bts_lt b1 hz a ha; have := hcW.size; omega
    · rw [List.mem_singleton] at he
      subst he
      refine ⟨bts_or fun hz => ?_, fun a ha => Nat.le_trans hs1 (hnew a ha), fun hz a b ha hb => ?_⟩
      · exact hch.row (hob.below hbW) (fun a ha ⟨b, hb, e⟩ => by have h1 := (h.own.at_ b hb).2.1; have := hnew a ha; omega)
      · rcases hx2 b hb with h1 | h1
        · have h2 := (h.own.at_ b h1).2.1; have := hnew a ha; omega
        · have := bts_lt hob hz a ha; have := hbW.size; dsimp only at *; omega
  · rw [h.many_, show n - k = n - (k + 1) + 1 by omega, many_step hf]
    cases many nodP (n - (k + 1)) rd <;> simp [Nd.pl]
theorem node_one {r ra rb rc rd ya yb : List UInt8} {c d : Nat} (h1 : rdB r = some (ya, ra)) (h2 : rdB ra = some (yb, rb)) (h3 : rdN 8 rb = some (c, rc)) (h4 : rdN 8 rc = some (d, rd)) : nodP r = some (⟨strOf ya, yb, c, d⟩, rd) := by
  unfold nodP; rw [h1]; simp only [h2, h3, h4]
theorem snap_none2 {bs r1 r2 r3 r4 : List UInt8} {now last n : Nat} {l : List Ls.Sess} (h1 : rdN 8 bs = some (now, r1)) (h2 : rdN 8 r1 = some (last, r2)) (h3 : rdN 2 r2 = some (n, r3)) (h4 : many sessP n r3 = some (l, r4)) (h5 : rdN 2 r4 = none) : snapP bs = none := by
  unfold snapP; rw [h1]; simp only [h2, h3, h4, h5]
theorem snap_none3 {bs r1 r2 r3 r4 r5 : List UInt8} {now last n m : Nat} {l : List Ls.Sess} (h1 : rdN 8 bs = some (now, r1)) (h2 : rdN 8 r1 = some (last, r2)) (h3 : rdN 2 r2 = some (n, r3)) (h4 : many sessP n r3 = some (l, r4)) (h5 : rdN 2 r4 = some (m, r5)) (h6 : many nodP m r5 = none) : snapP bs = none := by
  unfold snapP; rw [h1]; simp only [h2, h3, h4, h5, h6]
theorem snap_none1 {bs r1 r2 r3 : List UInt8} {now last n : Nat} (h1 : rdN 8 bs = some (now, r1)) (h2 : rdN 8 r1 = some (last, r2)) (h3 : rdN 2 r2 = some (n, r3)) (h4 : many sessP n r3 = none) : snapP bs = none := by
  unfold snapP; rw [h1]; simp only [h2, h3, h4]
-- BEGIN1
set_option maxHeartbeats 4000000 in
set_option maxRecDepth 100000 in
theorem snap_any (p : Nat) (D : Option Nat) (bs : List UInt8) (w : World) (h : RdrAt w p D bs) (hD : ∀ k, D = some k → k < w.heap.size) (hl : bs.length ≤ 100000) :
    Calls Tryz.prog 71 #[.pointer (some ⟨p, 0, none⟩)] w (SnapPost p D bs w) := by
  have hp : p < w.heap.size := by obtain ⟨_, _, h1, _⟩ := h; exact heap_lt h1
  have hS2 := heap_top (w.alloc (.cells #[.int .u64 0, .pointer none, .pointer none] 109)) (.cells #[.int .u64 0, .pointer none, .pointer none] 109)
  have hS1 := heap_new (o := .cells #[.int .u64 0, .pointer none, .pointer none] 109) (heap_top w (.cells #[.int .u64 0, .pointer none, .pointer none] 109))
  rw [size_alloc] at hS2
  have HB := Lib.hid (((Below.refl w.heap.size w).alloc (Nat.le_refl _) (.cells #[.int .u64 0, .pointer none, .pointer none] 109)).alloc (by rw [size_alloc]; omega) (.cells #[.int .u64 0, .pointer none, .pointer none] 109))
  have hR := h.keep (Chg.of_below HB.out (fun _ => False)) (fun h => h) (fun _ _ h => h)
  have hsz : ((w.alloc (.cells #[.int .u64 0, .pointer none, .pointer none] 109)).alloc (.cells #[.int .u64 0, .pointer none, .pointer none] 109)).heap.size = w.heap.size + 2 := by rw [size_alloc, size_alloc]
  have HH := Lib.hid (And.intro hR (And.intro hS1 (And.intro hS2 (And.intro hsz (And.intro hp (And.intro hD hl))))))
  clear h hD hR hS1 hS2 hsz
  go_enter Tryz.func71, Tryz.ntmps71
  go_upto_region 2 with fail
  generalize (w.alloc (.cells #[.int .u64 0, .pointer none, .pointer none] 109)).alloc (.cells #[.int .u64 0, .pointer none, .pointer none] 109) = wa at *
  have hlen := HH.out.2.2.2.2.2.2
  cases h1 : rdN 8 bs with
  | none =>
    go_wp2_with (go_at_call 73; (with_reducible refine (u64_no p D bs _ HH.out.1 h1).mono ?_); rintro e w1 ⟨rfl, rfl⟩)
    exact ⟨rfl, .inl ⟨4, by decide, SnapBad.none (by unfold snapP; rw [h1]), rfl, Chg.of_below HB.out _⟩⟩
  | some q1 =>
    obtain ⟨now, r1⟩ := q1
    have hl1 := rdN_len h1
    have HP1 := Lib.hid h1
    clear h1
    go_upto_region 3 with (go_at_call 73; (with_reducible refine (u64_yes p D bs now r1 _ HH.out.1 HP1.out (by omega)).mono ?_); rintro e w1 ⟨rfl, hr, hc⟩; have hS := hc.heap HH.out.2.2.1 (fun h => by have := HH.out.2.2.2.2.1; omega); obtain ⟨g0, g1, g2⟩ := cells3b hS (Below.refl _ _); have gf := heap_frozen hS 0; have H1 := Lib.hid (And.intro hr (And.intro hc hS)); clear hr hc hS)
    have hS2 := heap_set H1.out.2.2 0 (.int .u64 (now : Int))
    simp only [List.setIfInBounds_toArray, List.set_cons_zero, List.set_cons_succ] at hS2
    have hch2 : Chg (fun k => k = w.heap.size + 1) w1 (w1.setCell ⟨w.heap.size + 1, 0, none⟩ (.int .u64 (now : Int))) := (Chg.refl (fun k => k = w.heap.size + 1) w1).set (p := w.heap.size + 1) rfl 0 _
    have hR2 := H1.out.1.keep hch2 (fun h => by have := HH.out.2.2.2.2.1; omega) (fun k hk h => by have := HH.out.2.2.2.2.2.1 k hk; omega)
    have hz2 : (w1.setCell ⟨w.heap.size + 1, 0, none⟩ (.int .u64 (now : Int))).heap.size ≥ w.heap.size + 2 := by have h1 := hch2.size; have h2 := H1.out.2.1.size; have := HH.out.2.2.2.1; omega
    have hcw : Chg (· = p) w (w1.setCell ⟨w.heap.size + 1, 0, none⟩ (.int .u64 (now : Int))) := ((Chg.of_below HB.out (· = p)).trans H1.out.2.1 (fun _ _ h => h)).trans hch2 (fun i hi h => by omega)
    have hR0 := hch2.heap (H1.out.2.1.heap HH.out.2.1 (fun h => by have := HH.out.2.2.2.2.1; omega)) (by omega)
    generalize w1.setCell ⟨w.heap.size + 1, 0, none⟩ (.int .u64 (now : Int)) = wb at *
    have H2 := Lib.hid (And.intro hR2 (And.intro hS2 (And.intro hz2 (And.intro hcw hR0))))
    clear hR2 hS2 hz2 hcw hch2 hR0 g0 g1 g2 gf
    cases h2 : rdN 8 r1 with
    | none =>
      go_wp2_with (go_at_call 73; (with_reducible refine (u64_no p D r1 _ H2.out.1 h2).mono ?_); rintro e w3 ⟨rfl, rfl⟩)
      exact ⟨rfl, .inl ⟨4, by decide, SnapBad.none (by unfold snapP; rw [HP1.out]; simp only [h2]), rfl, H2.out.2.2.2.1⟩⟩
    | some q2 =>
      obtain ⟨last, r2⟩ := q2
      have hl2 := rdN_len h2
      have HP2 := Lib.hid h2
      clear h2
      go_upto_region 5 with (go_at_call 73; (with_reducible refine (u64_yes p D r1 last r2 _ H2.out.1 HP2.out (by omega)).mono ?_); rintro e w3 ⟨rfl, hr, hc⟩; have H3 := Lib.hid (And.intro hr hc); clear hr hc)
      cases h3 : rdN 2 r2 with
      | none =>
        go_wp2_with (go_at_call 108; (with_reducible refine (u16_no p D r2 _ H3.out.1 h3).mono ?_); rintro e w4 ⟨rfl, rfl⟩)
        exact ⟨rfl, .inl ⟨4, by decide, SnapBad.none (by unfold snapP; rw [HP1.out]; simp only [HP2.out, h3]), rfl, H2.out.2.2.2.1.trans H3.out.2 (fun _ _ h => h)⟩⟩
      | some q3 =>
        obtain ⟨n, r3⟩ := q3
        have hl3 := rdN_len h3
        have hn := rdN_lt h3
        have HP3 := Lib.hid h3
        clear h3
        have hn' : n < 65536 := hn
        clear hn
        go_upto_block 0 with (go_at_call 108; (with_reducible refine (u16_yes p D r2 n r3 _ H3.out.1 HP3.out (by omega)).mono ?_); rintro e w4 ⟨rfl, hr, hc⟩; have H4 := Lib.hid (And.intro hr (H3.out.2.trans hc (fun _ _ h => h))); clear hr hc)
        go_wp2
        have HW := Lib.hid (show p < wb.heap.size ∧ (∀ i, D = some i → i < wb.heap.size) from ⟨by have := HH.out.2.2.2.2.1; have := H2.out.2.2.1; omega, fun i hi => by have := HH.out.2.2.2.2.2.1 i hi; have := H2.out.2.2.1; omega⟩)
        go_loopg [5, 16] n (fun g v i wr => ∃ k r l xo xc, g + k = n ∧ i = .int .u16 (k : Nat) ∧ v = .slice xo k xc ∧ SnL wb wr p wb.heap.size D n k r3 r l xo xc)
        case atStart => exact ⟨0, r3, [], none, 0, by omega, rfl, rfl, SnL.zero H4.out.1 H4.out.2⟩
        case round =>
          obtain ⟨k, r, l, xo, xc, hgk, rfl, rfl, hs⟩ := hrel
          have HS := Lib.hid hs
          have hsm := hs.small
          clear hs
          by_cases hk : k < n
          · have hki : (k : Int) < (n : Int) := by omega
            have ek : IntKind.u16.wrap ((k : Int) + 1) = (k : Int) + 1 := by rw [IntKind.wrap_u16]; omega
            cases h4 : rdN 8 r with
            | none =>
              go_wp2_with (go_at_call 73; (with_reducible refine (u64_no p D r _ HS.out.rdr h4).mono ?_); rintro e w5 ⟨rfl, rfl⟩)
              exact ⟨rfl, .inl ⟨4, by decide, SnapBad.none (snap_none1 HP1.out HP2.out HP3.out (HS.out.bad hk (by unfold sessP; rw [h4]))), rfl, H2.out.2.2.2.1.trans HS.out.chg (fun _ _ h => h)⟩⟩
            | some qa =>
              obtain ⟨a, ra⟩ := qa
              have hla := rdN_len h4
              have hta := rdN_lt h4
              have HPa := Lib.hid h4
              clear h4
              cases h5 : rdN 8 ra with
              | none =>
                go_wp2_with (first
                  | (go_at_call 73; (with_reducible refine (u64_yes p D r a ra _ HS.out.rdr HPa.out (by omega)).mono ?_); rintro e w5 ⟨rfl, hr, hc⟩; have H5 := Lib.hid (And.intro hr hc); clear hr hc)
                  | (go_at_call 73; (with_reducible refine (u64_no p D ra _ H5.out.1 h5).mono ?_); rintro e w6 ⟨rfl, rfl⟩))
                exact ⟨rfl, .inl ⟨4, by decide, SnapBad.none (snap_none1 HP1.out HP2.out HP3.out (HS.out.bad hk (by unfold sessP; rw [HPa.out]; simp only [h5]))), rfl, (H2.out.2.2.2.1.trans HS.out.chg (fun _ _ h => h)).trans H5.out.2 (fun _ _ h => h)⟩⟩
              | some qb =>
                obtain ⟨b, rb⟩ := qb
                have hlb := rdN_len h5
                have htb := rdN_lt h5
                have HPb := Lib.hid h5
                clear h5
                cases h6 : rdN 8 rb with
                | none =>
                  go_wp2_with (first
                    | (go_at_call 73; (with_reducible refine (u64_yes p D r a ra _ HS.out.rdr HPa.out (by omega)).mono ?_); rintro e w5 ⟨rfl, hr, hc⟩; have H5 := Lib.hid (And.intro hr hc); clear hr hc)
                    | (go_at_call 73; (with_reducible refine (u64_yes p D ra b rb _ H5.out.1 HPb.out (by omega)).mono ?_); rintro e w6 ⟨rfl, hr, hc⟩; have H6 := Lib.hid (And.intro hr (H5.out.2.trans hc (fun _ _ h => h))); clear hr hc)
                    | (go_at_call 73; (with_reducible refine (u64_no p D rb _ H6.out.1 h6).mono ?_); rintro e w7 ⟨rfl, rfl⟩))
                  exact ⟨rfl, .inl ⟨4, by decide, SnapBad.none (snap_none1 HP1.out HP2.out HP3.out (HS.out.bad hk (by unfold sessP; rw [HPa.out]; simp only [HPb.out, h6]))), rfl, (H2.out.2.2.2.1.trans HS.out.chg (fun _ _ h => h)).trans H6.out.2 (fun _ _ h => h)⟩⟩
                | some qc =>
                  obtain ⟨c, rc⟩ := qc
                  have hlc := rdN_len h6
                  have HPc := Lib.hid h6
                  clear h6
                  go_wp2_with (first
                    | (go_at_call 73; (with_reducible refine (u64_yes p D r a ra _ HS.out.rdr HPa.out (by omega)).mono ?_); rintro e w5 ⟨rfl, hr, hc⟩; have H5 := Lib.hid (And.intro hr hc); clear hr hc)
                    | (go_at_call 73; (with_reducible refine (u64_yes p D ra b rb _ H5.out.1 HPb.out (by omega)).mono ?_); rintro e w6 ⟨rfl, hr, hc⟩; have H6 := Lib.hid (And.intro hr (H5.out.2.trans hc (fun _ _ h => h))); clear hr hc)
                    | (go_at_call 73; (with_reducible refine (u64_yes p D rb c rc _ H6.out.1 HPc.out (by omega)).mono ?_); rintro e w7 ⟨rfl, hr, hc⟩; have H7 := Lib.hid (And.intro hr (H6.out.2.trans hc (fun _ _ h => h))); clear hr hc; have HO := Lib.hid (HS.out.own.keep (H7.out.2.alloc (.cells #[.int .u64 (a : Int), .int .u64 (b : Int), .int .u64 (c : Int)] 96)) (fun x hx e => by have := HS.out.new x hx; have := HW.out.1; omega)); have HRW := Lib.hid (Row.alloc w7 #[.int .u64 (a : Int), .int .u64 (b : Int), .int .u64 (c : Int)] 96 (0, 0)); have HB7 := Lib.hid ((Below.refl w7.heap.size w7).alloc (Nat.le_refl _) (.cells #[.int .u64 (a : Int), .int .u64 (b : Int), .int .u64 (c : Int)] 96)))
                    | (at_builtin; refine wpList_append' rfl (.tmp 18) (.tmp 26) Ls.el_s rfl rfl rfl HO.out (m := 1) rfl HRW.out (Ls.el_e.one ⟨a, b, c⟩) (by unfold maxLen; omega) (by omega) ?_; intro xo' xc' w9 hx hch _ hx2; have H9 := Lib.hid (SnL.next HS.out hk (sess_one HPa.out HPb.out HPc.out) (by omega) HW.out.1 HW.out.2 H7.out.1 H7.out.2 HB7.out hx hch hx2); clear hx hch hx2))
                  go_roundg (gk - 1)
                  case measure => omega
                  case rel => exact ⟨k + 1, rc, _, xo', xc', by omega, by go_num, rfl, H9.out⟩
          · rename World => wL
            obtain rfl : k = n := by omega
            have HSA := Lib.hid HS.out.all
            have hcW := Lib.hid (H2.out.2.2.2.1.trans HS.out.chg (fun _ _ h => h))
            cases h7 : rdN 2 r with
            | none =>
              go_wp2_with (go_at_call 108; (with_reducible refine (u16_no p D r _ HS.out.rdr h7).mono ?_); rintro e w10 ⟨rfl, rfl⟩)
              exact ⟨rfl, .inl ⟨4, by decide, SnapBad.none (snap_none2 HP1.out HP2.out HP3.out HSA.out h7), rfl, hcW.out⟩⟩
            | some qm =>
              obtain ⟨m, r5⟩ := qm
              have hl5 := rdN_len h7
              have hm' : m < 65536 := rdN_lt h7
              have HP5 := Lib.hid h7
              clear h7
              go_upto_block 2 with (go_at_call 108; (with_reducible refine (u16_yes p D r m r5 _ HS.out.rdr HP5.out (by omega)).mono ?_); rintro e w10 ⟨rfl, hr, hc⟩; have H10 := Lib.hid (And.intro hr hc); clear hr hc)
              go_wp2
              have HW2 := Lib.hid (show p < wL.heap.size ∧ (∀ i, D = some i → i < wL.heap.size) from ⟨Nat.lt_of_lt_of_le HW.out.1 HS.out.chg.size, fun i hi => Nat.lt_of_lt_of_le (HW.out.2 i hi) HS.out.chg.size⟩)
              clear hk hgk
              go_loopg [6, 31] m (fun g v i wq => ∃ k r' es yo yc, g + k = m ∧ i = .int .u16 (k : Nat) ∧ v = .slice yo k yc ∧ SnN wL wq p D m k r5 r' es yo yc)
              case atStart => exact ⟨0, r5, [], none, 0, by omega, rfl, rfl, SnN.zero H10.out.1 H10.out.2⟩
              case round =>
                obtain ⟨k2, r', es, yo, yc, hgk, rfl, rfl, hs⟩ := hrel
                have HN := Lib.hid hs
                have hsm2 := hs.small
                clear hs
                by_cases hk : k2 < m
                · have hki : (k2 : Int) < (m : Int) := by omega
                  have ek2 : IntKind.u16.wrap ((k2 : Int) + 1) = (k2 : Int) + 1 := by rw [IntKind.wrap_u16]; omega
                  go_upto_region 12 with fail
                  have HD0 := Lib.hid (HN.out.rdr.keep' (Below.refl wr.heap.size wr).drew)
                  have HCD := Lib.hid (Chg.of_below (Below.refl wr.heap.size wr).drew (· = p))
                  have HCQ := Lib.hid ((hcW.out.trans HN.out.chg (fun _ _ h => h)).trans HCD.out (fun _ _ h => h))
                  have HQ := Lib.hid (show p < wr.drew.heap.size ∧ wr.drew.heap.size = wr.heap.size from ⟨Nat.lt_of_lt_of_le HW2.out.1 HN.out.chg.size, rfl⟩)
                  -- HAND12
                  cases h8 : rdB r' with
                  | none =>
                    refine wp_region_held_drew (S := fun _ => Hid True) (by kernel_rfl) (Lib.hid trivial) (fun hHeld => ?_)
                    refine wpAnyH_take (i := 0) (oi := Oper.mk (some 33) (Op.move (Operand.tmp 6)) 29 "meta.go:116" #[] none) (v := ?v0x1) rfl (by kernel_rfl) (by kernel_rfl) (by kernel_rfl) (fun _ _ _ h => h) (Or.inl ⟨by rfl, ?hy0x1⟩) (by assumption) ?rest0x1
                    case hy0x1 => (intro w hSw; (try dsimp only at hSw); go_simp; all_goals (with_reducible rfl))
                    (try simp only [Act.put, List.setIfInBounds_toArray, List.set_cons_zero, List.set_cons_succ])
                    refine wpAnyH_take (i := 1) (oi := Oper.mk (some 34) (Op.move (Operand.tmp 0)) 136 "meta.go:116" #[] none) (v := ?v1x1) rfl (by kernel_rfl) (by kernel_rfl) (by kernel_rfl) (fun _ _ _ h => h) (Or.inl ⟨by rfl, ?hy1x1⟩) (by assumption) ?rest1x1
                    case hy1x1 => (intro w hSw; (try dsimp only at hSw); go_simp; all_goals (with_reducible rfl))
                    (try simp only [Act.put, List.setIfInBounds_toArray, List.set_cons_zero, List.set_cons_succ])
                    refine wpAnyH_take (i := 4) (oi := Oper.mk (some 37) (Op.move (Operand.tmp 0)) 136 "meta.go:116" #[] none) (v := ?v4x1) rfl (by kernel_rfl) (by kernel_rfl) (by kernel_rfl) (fun _ _ _ h => h) (Or.inl ⟨by rfl, ?hy4x1⟩) (by assumption) ?rest4x1
                    case hy4x1 => (intro w hSw; (try dsimp only at hSw); go_simp; all_goals (with_reducible rfl))
                    (try simp only [Act.put, List.setIfInBounds_toArray, List.set_cons_zero, List.set_cons_succ])
                    refine wpAnyH_take (i := 6) (oi := Oper.mk (some 39) (Op.move (Operand.tmp 0)) 136 "meta.go:116" #[] none) (v := ?v6x1) rfl (by kernel_rfl) (by kernel_rfl) (by kernel_rfl) (fun _ _ _ h => h) (Or.inl ⟨by rfl, ?hy6x1⟩) (by assumption) ?rest6x1
                    case hy6x1 => (intro w hSw; (try dsimp only at hSw); go_simp; all_goals (with_reducible rfl))
                    (try simp only [Act.put, List.setIfInBounds_toArray, List.set_cons_zero, List.set_cons_succ])
                    refine wpAnyH_take (i := 8) (oi := Oper.mk (some 41) (Op.move (Operand.tmp 0)) 136 "meta.go:116" #[] none) (v := ?v8x1) rfl (by kernel_rfl) (by kernel_rfl) (by kernel_rfl) (fun _ _ _ h => h) (Or.inl ⟨by rfl, ?hy8x1⟩) (by assumption) ?rest8x1
                    case hy8x1 => (intro w hSw; (try dsimp only at hSw); go_simp; all_goals (with_reducible rfl))
                    (try simp only [Act.put, List.setIfInBounds_toArray, List.set_cons_zero, List.set_cons_succ])
                    refine wpAnyH_ready (rs := [2]) (by kernel_rfl) (by simp) ?_
                    refine AllReadyH.cons (o := Oper.mk (some 35) (Op.call (Call.mk (Callee.value (Operand.func 72)) #[Operand.tmp 34] #[136])) 25 "meta.go:116" #[Edge.mk 1 Ground.data] none) rfl (fun K hK => ?_) AllReadyH.nil
                    go_simp
                    go_at_call 72
                    (with_reducible refine (bytes_no p D r' _ HD0.out h8 (by omega)).mono ?_)
                    rintro e w20 ⟨rfl, hc⟩
                    exact ⟨rfl, .inl ⟨4, by decide, SnapBad.none (snap_none3 HP1.out HP2.out HP3.out HSA.out HP5.out (HN.out.bad hk (by unfold nodP; rw [h8]))), rfl, HCQ.out.trans hc (fun _ _ h => h)⟩⟩
                  | some q20 =>
                    obtain ⟨ya, ra⟩ := q20
                    have hlh8 := rdB_len h8
                    have HPa := Lib.hid h8
                    clear h8
                    cases h9 : rdB ra with
                    | none =>
                      refine wp_region_held_drew (S := fun _ => Hid True) (by kernel_rfl) (Lib.hid trivial) (fun hHeld => ?_)
                      refine wpAnyH_take (i := 0) (oi := Oper.mk (some 33) (Op.move (Operand.tmp 6)) 29 "meta.go:116" #[] none) (v := ?v0x2) rfl (by kernel_rfl) (by kernel_rfl) (by kernel_rfl) (fun _ _ _ h => h) (Or.inl ⟨by rfl, ?hy0x2⟩) (by assumption) ?rest0x2
                      case hy0x2 => (intro w hSw; (try dsimp only at hSw); go_simp; all_goals (with_reducible rfl))
                      (try simp only [Act.put, List.setIfInBounds_toArray, List.set_cons_zero, List.set_cons_succ])
                      refine wpAnyH_take (i := 1) (oi := Oper.mk (some 34) (Op.move (Operand.tmp 0)) 136 "meta.go:116" #[] none) (v := ?v1x2) rfl (by kernel_rfl) (by kernel_rfl) (by kernel_rfl) (fun _ _ _ h => h) (Or.inl ⟨by rfl, ?hy1x2⟩) (by assumption) ?rest1x2
                      case hy1x2 => (intro w hSw; (try dsimp only at hSw); go_simp; all_goals (with_reducible rfl))
                      (try simp only [Act.put, List.setIfInBounds_toArray, List.set_cons_zero, List.set_cons_succ])
                      refine wpAnyH_take (i := 4) (oi := Oper.mk (some 37) (Op.move (Operand.tmp 0)) 136 "meta.go:116" #[] none) (v := ?v4x2) rfl (by kernel_rfl) (by kernel_rfl) (by kernel_rfl) (fun _ _ _ h => h) (Or.inl ⟨by rfl, ?hy4x2⟩) (by assumption) ?rest4x2
                      case hy4x2 => (intro w hSw; (try dsimp only at hSw); go_simp; all_goals (with_reducible rfl))
                      (try simp only [Act.put, List.setIfInBounds_toArray, List.set_cons_zero, List.set_cons_succ])
                      refine wpAnyH_take (i := 6) (oi := Oper.mk (some 39) (Op.move (Operand.tmp 0)) 136 "meta.go:116" #[] none) (v := ?v6x2) rfl (by kernel_rfl) (by kernel_rfl) (by kernel_rfl) (fun _ _ _ h => h) (Or.inl ⟨by rfl, ?hy6x2⟩) (by assumption) ?rest6x2
                      case hy6x2 => (intro w hSw; (try dsimp only at hSw); go_simp; all_goals (with_reducible rfl))
                      (try simp only [Act.put, List.setIfInBounds_toArray, List.set_cons_zero, List.set_cons_succ])
                      refine wpAnyH_take (i := 8) (oi := Oper.mk (some 41) (Op.move (Operand.tmp 0)) 136 "meta.go:116" #[] none) (v := ?v8x2) rfl (by kernel_rfl) (by kernel_rfl) (by kernel_rfl) (fun _ _ _ h => h) (Or.inl ⟨by rfl, ?hy8x2⟩) (by assumption) ?rest8x2
                      case hy8x2 => (intro w hSw; (try dsimp only at hSw); go_simp; all_goals (with_reducible rfl))
                      (try simp only [Act.put, List.setIfInBounds_toArray, List.set_cons_zero, List.set_cons_succ])
                      refine wpAnyH_ready (rs := [2]) (by kernel_rfl) (by simp) ?_
                      refine AllReadyH.cons (o := Oper.mk (some 35) (Op.call (Call.mk (Callee.value (Operand.func 72)) #[Operand.tmp 34] #[136])) 25 "meta.go:116" #[Edge.mk 1 Ground.data] none) rfl (fun K hK => ?_) AllReadyH.nil
                      go_simp
                      go_at_call 72
                      (with_reducible refine (bytes_yes p D r' ya ra _ HD0.out HPa.out (by omega)).mono ?_)
                      rintro e w11 ⟨ko, kc, rfl, ho, hx, hr, hc⟩
                      have kcv1 := conv_bytes w11 Tryz.underlying25 Tryz.underlying5 Tryz.underlying9 ko ya.length kc ya rfl ho.bts
                      have H11 := Lib.hid (And.intro hr (And.intro hc (And.intro ho (fun a ha => (show p < a.block from Nat.lt_of_lt_of_le HQ.out.1 (hx a ha))))))
                      have HKN := Lib.hid hx
                      clear ho hx hr hc
                      go_wp2_with fail
                      refine hK.out _ _ (Lib.hid trivial) (fun hHeld => ?_)
                      clear hK K
                      (try simp only [Act.put, List.setIfInBounds_toArray, List.set_cons_zero, List.set_cons_succ])
                      refine wpAnyH_more (S2 := fun wx => (convert 25 9 (.slice ko ya.length kc)).run Tryz.prog wx = .ok (.string (strOf ya)) wx) (fun _ _ => Lib.hid trivial) _ _ _ _ ?_
                      refine wpAnyH_take (i := 3) (oi := Oper.mk (some 36) (Op.convert 25 9 (Operand.tmp 35)) 9 "meta.go:116" #[Edge.mk 2 Ground.data] none) (v := ?v3x2) rfl (by kernel_rfl) (by kernel_rfl) (by kernel_rfl) (fun _ _ _ h => h) (Or.inl ⟨by rfl, ?hy3x2⟩) (by assumption) ?rest3x2
                      case hy3x2 => (intro w hSw; (try dsimp only at hSw); go_simp; all_goals (with_reducible rfl))
                      (try simp only [Act.put, List.setIfInBounds_toArray, List.set_cons_zero, List.set_cons_succ])
                      refine wpAnyH_ready (rs := [5]) (by kernel_rfl) (by simp) ?_
                      refine AllReadyH.cons (o := Oper.mk (some 38) (Op.call (Call.mk (Callee.value (Operand.func 72)) #[Operand.tmp 37] #[136])) 25 "meta.go:116" #[Edge.mk 4 Ground.data, Edge.mk 2 Ground.chain] none) rfl (fun K hK => ?_) AllReadyH.nil
                      go_simp
                      go_at_call 72
                      (with_reducible refine (bytes_no p D ra _ H11.out.1 h9 (by omega)).mono ?_)
                      rintro e w20 ⟨rfl, hc⟩
                      exact ⟨rfl, .inl ⟨4, by decide, SnapBad.none (snap_none3 HP1.out HP2.out HP3.out HSA.out HP5.out (HN.out.bad hk (by unfold nodP; rw [HPa.out]; simp only [h9]))), rfl, (HCQ.out.trans H11.out.2.1 (fun _ _ h => h)).trans hc (fun _ _ h => h)⟩⟩
                    | some q21 =>
                      obtain ⟨yb, rb⟩ := q21
                      have hlh9 := rdB_len h9
                      have HPb := Lib.hid h9
                      clear h9
                      cases h10 : rdN 8 rb with
                      | none =>
                        refine wp_region_held_drew (S := fun _ => Hid True) (by kernel_rfl) (Lib.hid trivial) (fun hHeld => ?_)
                        refine wpAnyH_take (i := 0) (oi := Oper.mk (some 33) (Op.move (Operand.tmp 6)) 29 "meta.go:116" #[] none) (v := ?v0x3) rfl (by kernel_rfl) (by kernel_rfl) (by kernel_rfl) (fun _ _ _ h => h) (Or.inl ⟨by rfl, ?hy0x3⟩) (by assumption) ?rest0x3
                        case hy0x3 => (intro w hSw; (try dsimp only at hSw); go_simp; all_goals (with_reducible rfl))
                        (try simp only [Act.put, List.setIfInBounds_toArray, List.set_cons_zero, List.set_cons_succ])
                        refine wpAnyH_take (i := 1) (oi := Oper.mk (some 34) (Op.move (Operand.tmp 0)) 136 "meta.go:116" #[] none) (v := ?v1x3) rfl (by kernel_rfl) (by kernel_rfl) (by kernel_rfl) (fun _ _ _ h => h) (Or.inl ⟨by rfl, ?hy1x3⟩) (by assumption) ?rest1x3
                        case hy1x3 => (intro w hSw; (try dsimp only at hSw); go_simp; all_goals (with_reducible rfl))
                        (try simp only [Act.put, List.setIfInBounds_toArray, List.set_cons_zero, List.set_cons_succ])
                        refine wpAnyH_take (i := 4) (oi := Oper.mk (some 37) (Op.move (Operand.tmp 0)) 136 "meta.go:116" #[] none) (v := ?v4x3) rfl (by kernel_rfl) (by kernel_rfl) (by kernel_rfl) (fun _ _ _ h => h) (Or.inl ⟨by rfl, ?hy4x3⟩) (by assumption) ?rest4x3
                        case hy4x3 => (intro w hSw; (try dsimp only at hSw); go_simp; all_goals (with_reducible rfl))
                        (try simp only [Act.put, List.setIfInBounds_toArray, List.set_cons_zero, List.set_cons_succ])
                        refine wpAnyH_take (i := 6) (oi := Oper.mk (some 39) (Op.move (Operand.tmp 0)) 136 "meta.go:116" #[] none) (v := ?v6x3) rfl (by kernel_rfl) (by kernel_rfl) (by kernel_rfl) (fun _ _ _ h => h) (Or.inl ⟨by rfl, ?hy6x3⟩) (by assumption) ?rest6x3
                        case hy6x3 => (intro w hSw; (try dsimp only at hSw); go_simp; all_goals (with_reducible rfl))
                        (try simp only [Act.put, List.setIfInBounds_toArray, List.set_cons_zero, List.set_cons_succ])
                        refine wpAnyH_take (i := 8) (oi := Oper.mk (some 41) (Op.move (Operand.tmp 0)) 136 "meta.go:116" #[] none) (v := ?v8x3) rfl (by kernel_rfl) (by kernel_rfl) (by kernel_rfl) (fun _ _ _ h => h) (Or.inl ⟨by rfl, ?hy8x3⟩) (by assumption) ?rest8x3
                        case hy8x3 => (intro w hSw; (try dsimp only at hSw); go_simp; all_goals (with_reducible rfl))
                        (try simp only [Act.put, List.setIfInBounds_toArray, List.set_cons_zero, List.set_cons_succ])
                        refine wpAnyH_ready (rs := [2]) (by kernel_rfl) (by simp) ?_
                        refine AllReadyH.cons (o := Oper.mk (some 35) (Op.call (Call.mk (Callee.value (Operand.func 72)) #[Operand.tmp 34] #[136])) 25 "meta.go:116" #[Edge.mk 1 Ground.data] none) rfl (fun K hK => ?_) AllReadyH.nil
                        go_simp
                        go_at_call 72
                        (with_reducible refine (bytes_yes p D r' ya ra _ HD0.out HPa.out (by omega)).mono ?_)
                        rintro e w11 ⟨ko, kc, rfl, ho, hx, hr, hc⟩
                        have kcv1 := conv_bytes w11 Tryz.underlying25 Tryz.underlying5 Tryz.underlying9 ko ya.length kc ya rfl ho.bts
                        have H11 := Lib.hid (And.intro hr (And.intro hc (And.intro ho (fun a ha => (show p < a.block from Nat.lt_of_lt_of_le HQ.out.1 (hx a ha))))))
                        have HKN := Lib.hid hx
                        clear ho hx hr hc
                        go_wp2_with fail
                        refine hK.out _ _ (Lib.hid trivial) (fun hHeld => ?_)
                        clear hK K
                        (try simp only [Act.put, List.setIfInBounds_toArray, List.set_cons_zero, List.set_cons_succ])
                        refine wpAnyH_more (S2 := fun wx => (convert 25 9 (.slice ko ya.length kc)).run Tryz.prog wx = .ok (.string (strOf ya)) wx) (fun _ _ => Lib.hid trivial) _ _ _ _ ?_
                        refine wpAnyH_take (i := 3) (oi := Oper.mk (some 36) (Op.convert 25 9 (Operand.tmp 35)) 9 "meta.go:116" #[Edge.mk 2 Ground.data] none) (v := ?v3x3) rfl (by kernel_rfl) (by kernel_rfl) (by kernel_rfl) (fun _ _ _ h => h) (Or.inl ⟨by rfl, ?hy3x3⟩) (by assumption) ?rest3x3
                        case hy3x3 => (intro w hSw; (try dsimp only at hSw); go_simp; all_goals (with_reducible rfl))
                        (try simp only [Act.put, List.setIfInBounds_toArray, List.set_cons_zero, List.set_cons_succ])
                        refine wpAnyH_ready (rs := [5]) (by kernel_rfl) (by simp) ?_
                        refine AllReadyH.cons (o := Oper.mk (some 38) (Op.call (Call.mk (Callee.value (Operand.func 72)) #[Operand.tmp 37] #[136])) 25 "meta.go:116" #[Edge.mk 4 Ground.data, Edge.mk 2 Ground.chain] none) rfl (fun K hK => ?_) AllReadyH.nil
                        go_simp
                        go_at_call 72
                        (with_reducible refine (bytes_yes p D ra yb rb _ H11.out.1 HPb.out (by omega)).mono ?_)
                        rintro e w12 ⟨vo, vc, rfl, ho, hx, hr, hc⟩
                        have hk12 := H11.out.2.2.1.keep hc (fun a ha e => by have := H11.out.2.2.2 a ha; omega)
                        have kcv2 := conv_bytes w12 Tryz.underlying25 Tryz.underlying5 Tryz.underlying9 ko ya.length kc ya rfl hk12.bts
                        have H12 := Lib.hid (And.intro hr (And.intro (H11.out.2.1.trans hc (fun _ _ h => h)) (And.intro hk12 (And.intro ho (fun a ha => Nat.le_trans H11.out.2.1.size (hx a ha))))))
                        clear ho hx hr hc hk12
                        go_wp2_with fail
                        refine hK.out _ _ (kcv2) (fun hHeld => ?_)
                        clear hK K
                        (try simp only [Act.put, List.setIfInBounds_toArray, List.set_cons_zero, List.set_cons_succ])
                        refine wpAnyH_ready (rs := [7]) (by kernel_rfl) (by simp) ?_
                        refine AllReadyH.cons (o := Oper.mk (some 40) (Op.call (Call.mk (Callee.value (Operand.func 73)) #[Operand.tmp 39] #[136])) 28 "meta.go:116" #[Edge.mk 6 Ground.data, Edge.mk 5 Ground.chain] none) rfl (fun K hK => ?_) AllReadyH.nil
                        go_simp
                        go_at_call 73
                        (with_reducible refine (u64_no p D rb _ H12.out.1 h10).mono ?_)
                        rintro e w20 ⟨rfl, rfl⟩
                        exact ⟨rfl, .inl ⟨4, by decide, SnapBad.none (snap_none3 HP1.out HP2.out HP3.out HSA.out HP5.out (HN.out.bad hk (by unfold nodP; rw [HPa.out]; simp only [HPb.out, h10]))), rfl, HCQ.out.trans H12.out.2.1 (fun _ _ h => h)⟩⟩
                      | some q22 =>
                        obtain ⟨c, rc⟩ := q22
                        have hlh10 := rdN_len h10
                        have HPc := Lib.hid h10
                        clear h10
                        cases h11 : rdN 8 rc with
                        | none =>
                          refine wp_region_held_drew (S := fun _ => Hid True) (by kernel_rfl) (Lib.hid trivial) (fun hHeld => ?_)
                          refine wpAnyH_take (i := 0) (oi := Oper.mk (some 33) (Op.move (Operand.tmp 6)) 29 "meta.go:116" #[] none) (v := ?v0x4) rfl (by kernel_rfl) (by kernel_rfl) (by kernel_rfl) (fun _ _ _ h => h) (Or.inl ⟨by rfl, ?hy0x4⟩) (by assumption) ?rest0x4
                          case hy0x4 => (intro w hSw; (try dsimp only at hSw); go_simp; all_goals (with_reducible rfl))
                          (try simp only [Act.put, List.setIfInBounds_toArray, List.set_cons_zero, List.set_cons_succ])
                          refine wpAnyH_take (i := 1) (oi := Oper.mk (some 34) (Op.move (Operand.tmp 0)) 136 "meta.go:116" #[] none) (v := ?v1x4) rfl (by kernel_rfl) (by kernel_rfl) (by kernel_rfl) (fun _ _ _ h => h) (Or.inl ⟨by rfl, ?hy1x4⟩) (by assumption) ?rest1x4
                          case hy1x4 => (intro w hSw; (try dsimp only at hSw); go_simp; all_goals (with_reducible rfl))
                          (try simp only [Act.put, List.setIfInBounds_toArray, List.set_cons_zero, List.set_cons_succ])
                          refine wpAnyH_take (i := 4) (oi := Oper.mk (some 37) (Op.move (Operand.tmp 0)) 136 "meta.go:116" #[] none) (v := ?v4x4) rfl (by kernel_rfl) (by kernel_rfl) (by kernel_rfl) (fun _ _ _ h => h) (Or.inl ⟨by rfl, ?hy4x4⟩) (by assumption) ?rest4x4
                          case hy4x4 => (intro w hSw; (try dsimp only at hSw); go_simp; all_goals (with_reducible rfl))
                          (try simp only [Act.put, List.setIfInBounds_toArray, List.set_cons_zero, List.set_cons_succ])
                          refine wpAnyH_take (i := 6) (oi := Oper.mk (some 39) (Op.move (Operand.tmp 0)) 136 "meta.go:116" #[] none) (v := ?v6x4) rfl (by kernel_rfl) (by kernel_rfl) (by kernel_rfl) (fun _ _ _ h => h) (Or.inl ⟨by rfl, ?hy6x4⟩) (by assumption) ?rest6x4
                          case hy6x4 => (intro w hSw; (try dsimp only at hSw); go_simp; all_goals (with_reducible rfl))
                          (try simp only [Act.put, List.setIfInBounds_toArray, List.set_cons_zero, List.set_cons_succ])
                          refine wpAnyH_take (i := 8) (oi := Oper.mk (some 41) (Op.move (Operand.tmp 0)) 136 "meta.go:116" #[] none) (v := ?v8x4) rfl (by kernel_rfl) (by kernel_rfl) (by kernel_rfl) (fun _ _ _ h => h) (Or.inl ⟨by rfl, ?hy8x4⟩) (by assumption) ?rest8x4
                          case hy8x4 => (intro w hSw; (try dsimp only at hSw); go_simp; all_goals (with_reducible rfl))
                          (try simp only [Act.put, List.setIfInBounds_toArray, List.set_cons_zero, List.set_cons_succ])
                          refine wpAnyH_ready (rs := [2]) (by kernel_rfl) (by simp) ?_
                          refine AllReadyH.cons (o := Oper.mk (some 35) (Op.call (Call.mk (Callee.value (Operand.func 72)) #[Operand.tmp 34] #[136])) 25 "meta.go:116" #[Edge.mk 1 Ground.data] none) rfl (fun K hK => ?_) AllReadyH.nil
                          go_simp
                          go_at_call 72
                          (with_reducible refine (bytes_yes p D r' ya ra _ HD0.out HPa.out (by omega)).mono ?_)
                          rintro e w11 ⟨ko, kc, rfl, ho, hx, hr, hc⟩
                          have kcv1 := conv_bytes w11 Tryz.underlying25 Tryz.underlying5 Tryz.underlying9 ko ya.length kc ya rfl ho.bts
                          have H11 := Lib.hid (And.intro hr (And.intro hc (And.intro ho (fun a ha => (show p < a.block from Nat.lt_of_lt_of_le HQ.out.1 (hx a ha))))))
                          have HKN := Lib.hid hx
                          clear ho hx hr hc
                          go_wp2_with fail
                          refine hK.out _ _ (Lib.hid trivial) (fun hHeld => ?_)
                          clear hK K
                          (try simp only [Act.put, List.setIfInBounds_toArray, List.set_cons_zero, List.set_cons_succ])
                          refine wpAnyH_more (S2 := fun wx => (convert 25 9 (.slice ko ya.length kc)).run Tryz.prog wx = .ok (.string (strOf ya)) wx) (fun _ _ => Lib.hid trivial) _ _ _ _ ?_
                          refine wpAnyH_take (i := 3) (oi := Oper.mk (some 36) (Op.convert 25 9 (Operand.tmp 35)) 9 "meta.go:116" #[Edge.mk 2 Ground.data] none) (v := ?v3x4) rfl (by kernel_rfl) (by kernel_rfl) (by kernel_rfl) (fun _ _ _ h => h) (Or.inl ⟨by rfl, ?hy3x4⟩) (by assumption) ?rest3x4
                          case hy3x4 => (intro w hSw; (try dsimp only at hSw); go_simp; all_goals (with_reducible rfl))
                          (try simp only [Act.put, List.setIfInBounds_toArray, List.set_cons_zero, List.set_cons_succ])
                          refine wpAnyH_ready (rs := [5]) (by kernel_rfl) (by simp) ?_
                          refine AllReadyH.cons (o := Oper.mk (some 38) (Op.call (Call.mk (Callee.value (Operand.func 72)) #[Operand.tmp 37] #[136])) 25 "meta.go:116" #[Edge.mk 4 Ground.data, Edge.mk 2 Ground.chain] none) rfl (fun K hK => ?_) AllReadyH.nil
                          go_simp
                          go_at_call 72
                          (with_reducible refine (bytes_yes p D ra yb rb _ H11.out.1 HPb.out (by omega)).mono ?_)
                          rintro e w12 ⟨vo, vc, rfl, ho, hx, hr, hc⟩
                          have hk12 := H11.out.2.2.1.keep hc (fun a ha e => by have := H11.out.2.2.2 a ha; omega)
                          have kcv2 := conv_bytes w12 Tryz.underlying25 Tryz.underlying5 Tryz.underlying9 ko ya.length kc ya rfl hk12.bts
                          have H12 := Lib.hid (And.intro hr (And.intro (H11.out.2.1.trans hc (fun _ _ h => h)) (And.intro hk12 (And.intro ho (fun a ha => Nat.le_trans H11.out.2.1.size (hx a ha))))))
                          clear ho hx hr hc hk12
                          go_wp2_with fail
                          refine hK.out _ _ (kcv2) (fun hHeld => ?_)
                          clear hK K
                          (try simp only [Act.put, List.setIfInBounds_toArray, List.set_cons_zero, List.set_cons_succ])
                          refine wpAnyH_ready (rs := [7]) (by kernel_rfl) (by simp) ?_
                          refine AllReadyH.cons (o := Oper.mk (some 40) (Op.call (Call.mk (Callee.value (Operand.func 73)) #[Operand.tmp 39] #[136])) 28 "meta.go:116" #[Edge.mk 6 Ground.data, Edge.mk 5 Ground.chain] none) rfl (fun K hK => ?_) AllReadyH.nil
                          go_simp
                          go_at_call 73
                          (with_reducible refine (u64_yes p D rb c rc _ H12.out.1 HPc.out (by omega)).mono ?_)
                          rintro e w13 ⟨rfl, hr, hc⟩
                          have hk0 := H12.out.2.2.1.keep hc (fun a ha e => by have := H11.out.2.2.2 a ha; omega)
                          have hv0 := H12.out.2.2.2.1.keep hc (fun a ha e => by have := H12.out.2.2.2.2 a ha; have := HQ.out.1; omega)
                          have kcv3 := conv_bytes w13 Tryz.underlying25 Tryz.underlying5 Tryz.underlying9 ko ya.length kc ya rfl hk0.bts
                          have H13 := Lib.hid (And.intro hr (And.intro (H12.out.2.1.trans hc (fun _ _ h => h)) (And.intro hk0 hv0)))
                          clear hr hc hk0 hv0
                          go_wp2_with fail
                          refine hK.out _ _ (kcv3) (fun hHeld => ?_)
                          clear hK K
                          (try simp only [Act.put, List.setIfInBounds_toArray, List.set_cons_zero, List.set_cons_succ])
                          refine wpAnyH_ready (rs := [9]) (by kernel_rfl) (by simp) ?_
                          refine AllReadyH.cons (o := Oper.mk (some 42) (Op.call (Call.mk (Callee.value (Operand.func 73)) #[Operand.tmp 41] #[136])) 28 "meta.go:116" #[Edge.mk 8 Ground.data, Edge.mk 7 Ground.chain] none) rfl (fun K hK => ?_) AllReadyH.nil
                          go_simp
                          go_at_call 73
                          (with_reducible refine (u64_no p D rc _ H13.out.1 h11).mono ?_)
                          rintro e w20 ⟨rfl, rfl⟩
                          exact ⟨rfl, .inl ⟨4, by decide, SnapBad.none (snap_none3 HP1.out HP2.out HP3.out HSA.out HP5.out (HN.out.bad hk (by unfold nodP; rw [HPa.out]; simp only [HPb.out, HPc.out, h11]))), rfl, HCQ.out.trans H13.out.2.1 (fun _ _ h => h)⟩⟩
                        | some q23 =>
                          obtain ⟨d, rd⟩ := q23
                          have hlh11 := rdN_len h11
                          have HPd := Lib.hid h11
                          clear h11
                          refine wp_region_held_drew (S := fun _ => Hid True) (by kernel_rfl) (Lib.hid trivial) (fun hHeld => ?_)
                          refine wpAnyH_take (i := 0) (oi := Oper.mk (some 33) (Op.move (Operand.tmp 6)) 29 "meta.go:116" #[] none) (v := ?v0x5) rfl (by kernel_rfl) (by kernel_rfl) (by kernel_rfl) (fun _ _ _ h => h) (Or.inl ⟨by rfl, ?hy0x5⟩) (by assumption) ?rest0x5
                          case hy0x5 => (intro w hSw; (try dsimp only at hSw); go_simp; all_goals (with_reducible rfl))
                          (try simp only [Act.put, List.setIfInBounds_toArray, List.set_cons_zero, List.set_cons_succ])
                          refine wpAnyH_take (i := 1) (oi := Oper.mk (some 34) (Op.move (Operand.tmp 0)) 136 "meta.go:116" #[] none) (v := ?v1x5) rfl (by kernel_rfl) (by kernel_rfl) (by kernel_rfl) (fun _ _ _ h => h) (Or.inl ⟨by rfl, ?hy1x5⟩) (by assumption) ?rest1x5
                          case hy1x5 => (intro w hSw; (try dsimp only at hSw); go_simp; all_goals (with_reducible rfl))
                          (try simp only [Act.put, List.setIfInBounds_toArray, List.set_cons_zero, List.set_cons_succ])
                          refine wpAnyH_take (i := 4) (oi := Oper.mk (some 37) (Op.move (Operand.tmp 0)) 136 "meta.go:116" #[] none) (v := ?v4x5) rfl (by kernel_rfl) (by kernel_rfl) (by kernel_rfl) (fun _ _ _ h => h) (Or.inl ⟨by rfl, ?hy4x5⟩) (by assumption) ?rest4x5
                          case hy4x5 => (intro w hSw; (try dsimp only at hSw); go_simp; all_goals (with_reducible rfl))
                          (try simp only [Act.put, List.setIfInBounds_toArray, List.set_cons_zero, List.set_cons_succ])
                          refine wpAnyH_take (i := 6) (oi := Oper.mk (some 39) (Op.move (Operand.tmp 0)) 136 "meta.go:116" #[] none) (v := ?v6x5) rfl (by kernel_rfl) (by kernel_rfl) (by kernel_rfl) (fun _ _ _ h => h) (Or.inl ⟨by rfl, ?hy6x5⟩) (by assumption) ?rest6x5
                          case hy6x5 => (intro w hSw; (try dsimp only at hSw); go_simp; all_goals (with_reducible rfl))
                          (try simp only [Act.put, List.setIfInBounds_toArray, List.set_cons_zero, List.set_cons_succ])
                          refine wpAnyH_take (i := 8) (oi := Oper.mk (some 41) (Op.move (Operand.tmp 0)) 136 "meta.go:116" #[] none) (v := ?v8x5) rfl (by kernel_rfl) (by kernel_rfl) (by kernel_rfl) (fun _ _ _ h => h) (Or.inl ⟨by rfl, ?hy8x5⟩) (by assumption) ?rest8x5
                          case hy8x5 => (intro w hSw; (try dsimp only at hSw); go_simp; all_goals (with_reducible rfl))
                          (try simp only [Act.put, List.setIfInBounds_toArray, List.set_cons_zero, List.set_cons_succ])
                          refine wpAnyH_ready (rs := [2]) (by kernel_rfl) (by simp) ?_
                          refine AllReadyH.cons (o := Oper.mk (some 35) (Op.call (Call.mk (Callee.value (Operand.func 72)) #[Operand.tmp 34] #[136])) 25 "meta.go:116" #[Edge.mk 1 Ground.data] none) rfl (fun K hK => ?_) AllReadyH.nil
                          go_simp
                          go_at_call 72
                          (with_reducible refine (bytes_yes p D r' ya ra _ HD0.out HPa.out (by omega)).mono ?_)
                          rintro e w11 ⟨ko, kc, rfl, ho, hx, hr, hc⟩
                          have kcv1 := conv_bytes w11 Tryz.underlying25 Tryz.underlying5 Tryz.underlying9 ko ya.length kc ya rfl ho.bts
                          have H11 := Lib.hid (And.intro hr (And.intro hc (And.intro ho (fun a ha => (show p < a.block from Nat.lt_of_lt_of_le HQ.out.1 (hx a ha))))))
                          have HKN := Lib.hid hx
                          clear ho hx hr hc
                          go_wp2_with fail
                          refine hK.out _ _ (Lib.hid trivial) (fun hHeld => ?_)
                          clear hK K
                          (try simp only [Act.put, List.setIfInBounds_toArray, List.set_cons_zero, List.set_cons_succ])
                          refine wpAnyH_more (S2 := fun wx => (convert 25 9 (.slice ko ya.length kc)).run Tryz.prog wx = .ok (.string (strOf ya)) wx) (fun _ _ => Lib.hid trivial) _ _ _ _ ?_
                          refine wpAnyH_take (i := 3) (oi := Oper.mk (some 36) (Op.convert 25 9 (Operand.tmp 35)) 9 "meta.go:116" #[Edge.mk 2 Ground.data] none) (v := ?v3x5) rfl (by kernel_rfl) (by kernel_rfl) (by kernel_rfl) (fun _ _ _ h => h) (Or.inl ⟨by rfl, ?hy3x5⟩) (by assumption) ?rest3x5
                          case hy3x5 => (intro w hSw; (try dsimp only at hSw); go_simp; all_goals (with_reducible rfl))
                          (try simp only [Act.put, List.setIfInBounds_toArray, List.set_cons_zero, List.set_cons_succ])
                          refine wpAnyH_ready (rs := [5]) (by kernel_rfl) (by simp) ?_
                          refine AllReadyH.cons (o := Oper.mk (some 38) (Op.call (Call.mk (Callee.value (Operand.func 72)) #[Operand.tmp 37] #[136])) 25 "meta.go:116" #[Edge.mk 4 Ground.data, Edge.mk 2 Ground.chain] none) rfl (fun K hK => ?_) AllReadyH.nil
                          go_simp
                          go_at_call 72
                          (with_reducible refine (bytes_yes p D ra yb rb _ H11.out.1 HPb.out (by omega)).mono ?_)
                          rintro e w12 ⟨vo, vc, rfl, ho, hx, hr, hc⟩
                          have hk12 := H11.out.2.2.1.keep hc (fun a ha e => by have := H11.out.2.2.2 a ha; omega)
                          have kcv2 := conv_bytes w12 Tryz.underlying25 Tryz.underlying5 Tryz.underlying9 ko ya.length kc ya rfl hk12.bts
                          have H12 := Lib.hid (And.intro hr (And.intro (H11.out.2.1.trans hc (fun _ _ h => h)) (And.intro hk12 (And.intro ho (fun a ha => Nat.le_trans H11.out.2.1.size (hx a ha))))))
                          clear ho hx hr hc hk12
                          go_wp2_with fail
                          refine hK.out _ _ (kcv2) (fun hHeld => ?_)
                          clear hK K
                          (try simp only [Act.put, List.setIfInBounds_toArray, List.set_cons_zero, List.set_cons_succ])
                          refine wpAnyH_ready (rs := [7]) (by kernel_rfl) (by simp) ?_
                          refine AllReadyH.cons (o := Oper.mk (some 40) (Op.call (Call.mk (Callee.value (Operand.func 73)) #[Operand.tmp 39] #[136])) 28 "meta.go:116" #[Edge.mk 6 Ground.data, Edge.mk 5 Ground.chain] none) rfl (fun K hK => ?_) AllReadyH.nil
                          go_simp
                          go_at_call 73
                          (with_reducible refine (u64_yes p D rb c rc _ H12.out.1 HPc.out (by omega)).mono ?_)
                          rintro e w13 ⟨rfl, hr, hc⟩
                          have hk0 := H12.out.2.2.1.keep hc (fun a ha e => by have := H11.out.2.2.2 a ha; omega)
                          have hv0 := H12.out.2.2.2.1.keep hc (fun a ha e => by have := H12.out.2.2.2.2 a ha; have := HQ.out.1; omega)
                          have kcv3 := conv_bytes w13 Tryz.underlying25 Tryz.underlying5 Tryz.underlying9 ko ya.length kc ya rfl hk0.bts
                          have H13 := Lib.hid (And.intro hr (And.intro (H12.out.2.1.trans hc (fun _ _ h => h)) (And.intro hk0 hv0)))
                          clear hr hc hk0 hv0
                          go_wp2_with fail
                          refine hK.out _ _ (kcv3) (fun hHeld => ?_)
                          clear hK K
                          (try simp only [Act.put, List.setIfInBounds_toArray, List.set_cons_zero, List.set_cons_succ])
                          refine wpAnyH_ready (rs := [9]) (by kernel_rfl) (by simp) ?_
                          refine AllReadyH.cons (o := Oper.mk (some 42) (Op.call (Call.mk (Callee.value (Operand.func 73)) #[Operand.tmp 41] #[136])) 28 "meta.go:116" #[Edge.mk 8 Ground.data, Edge.mk 7 Ground.chain] none) rfl (fun K hK => ?_) AllReadyH.nil
                          go_simp
                          go_at_call 73
                          (with_reducible refine (u64_yes p D rc d rd _ H13.out.1 HPd.out (by omega)).mono ?_)
                          rintro e w14 ⟨rfl, hr, hc⟩
                          have hk0 := H13.out.2.2.1.keep hc (fun a ha e => by have := H11.out.2.2.2 a ha; omega)
                          have hv0 := H13.out.2.2.2.keep hc (fun a ha e => by have := H12.out.2.2.2.2 a ha; have := HQ.out.1; omega)
                          have kcv4 := conv_bytes w14 Tryz.underlying25 Tryz.underlying5 Tryz.underlying9 ko ya.length kc ya rfl hk0.bts
                          have H14 := Lib.hid (And.intro hr (And.intro (H13.out.2.1.trans hc (fun _ _ h => h)) (And.intro hk0 hv0)))
                          clear hr hc hk0 hv0
                          go_wp2_with fail
                          refine hK.out _ _ (kcv4) (fun hHeld => ?_)
                          clear hK K
                          (try simp only [Act.put, List.setIfInBounds_toArray, List.set_cons_zero, List.set_cons_succ])
                          refine wpAnyH_take (i := 10) (oi := Oper.mk (some 43) (Op.build 78 #[(0, Operand.tmp 36), (1, Operand.tmp 38), (2, Operand.tmp 40), (3, Operand.tmp 42)]) 78 "meta.go:116" #[Edge.mk 3 Ground.data, Edge.mk 5 Ground.data, Edge.mk 7 Ground.data, Edge.mk 9 Ground.data] none) (v := ?v10x5) rfl (by kernel_rfl) (by kernel_rfl) (by kernel_rfl) (fun _ _ _ h => h) (Or.inl ⟨by rfl, ?hy10x5⟩) (by assumption) ?rest10x5
                          case hy10x5 => (intro w hSw; (try dsimp only at hSw); go_simp; all_goals (with_reducible rfl))
                          (try simp only [Act.put, List.setIfInBounds_toArray, List.set_cons_zero, List.set_cons_succ])
                          have HBW := Lib.hid ((Below.refl w14.heap.size w14).alloc (Nat.le_refl _) (.cells #[.string (strOf ya), .slice vo yb.length vc, .int .u64 (c : Int), .int .u64 (d : Int)] 78))
                          have kcv5 := conv_bytes (w14.alloc (.cells #[.string (strOf ya), .slice vo yb.length vc, .int .u64 (c : Int), .int .u64 (d : Int)] 78)) Tryz.underlying25 Tryz.underlying5 Tryz.underlying9 ko ya.length kc ya rfl (H14.out.2.2.1.bts.below HBW.out)
                          have HRW := Lib.hid (Row.alloc w14 #[.string (strOf ya), .slice vo yb.length vc, .int .u64 (c : Int), .int .u64 (d : Int)] 78 (0, 0))
                          have HON := Lib.hid ((HN.out.own.drew.keep H14.out.2.1 (fun a ha e => by have := HN.out.new a ha; have := HW2.out.1; omega)).keep (Chg.of_below HBW.out (fun _ => False)) (fun _ _ h => h))
                          refine wpAnyH_ready (rs := [11]) (by kernel_rfl) (by simp) ?_
                          refine AllReadyH.cons (o := Oper.mk (some 44) (Op.buildSlice 29 1 #[(0, Operand.tmp 43)]) 29 "meta.go:116" #[Edge.mk 10 Ground.data] none) rfl (fun K hK => ?_) AllReadyH.nil
                          go_simp
                          refine hK.out _ _ (kcv5) (fun hHeld => ?_)
                          clear hK K
                          (try simp only [Act.put, List.setIfInBounds_toArray, List.set_cons_zero, List.set_cons_succ])
                          refine wpAnyH_ready (rs := [12]) (by kernel_rfl) (by simp) ?_
                          refine AllReadyH.cons (o := Oper.mk (some 45) (Op.call (Call.mk (Callee.builtin Builtin.append) #[Operand.tmp 33, Operand.tmp 44] #[29, 29])) 29 "meta.go:116" #[Edge.mk 0 Ground.data, Edge.mk 11 Ground.data, Edge.mk 9 Ground.chain] none) rfl (fun K hK => ?_) AllReadyH.nil
                          refine step_append' rfl (.tmp 33) (.tmp 44) el_i rfl (c := 1) ?hs ?hx HON.out (m := 1) rfl HRW.out (el_e.one ⟨strOf ya, yb, c, d, vo, vc⟩) (by unfold maxLen; omega) (by omega) ?_
                          (case hs => simp [Act.eval, Act.put])
                          (case hx => simp [Act.eval, Act.put])
                          intro yo' yc' w16 hx hch _ hx2
                          have H16 := Lib.hid (SnN.next HN.out hk (node_one HPa.out HPb.out HPc.out HPd.out) (by omega) HW2.out.1 HW2.out.2 H14.out.1 (HCD.out.trans H14.out.2.1 (fun _ _ h => h)) H14.out.2.2.2.bts (fun a ha => H12.out.2.2.2.2 a ha) HBW.out hx hch hx2)
                          have kcv6 := conv_bytes w16 Tryz.underlying25 Tryz.underlying5 Tryz.underlying9 ko ya.length kc ya rfl (bts_or fun hz => hch.row (H14.out.2.2.1.bts.below HBW.out) (fun a ha ⟨b, hb, e⟩ => by have := (HN.out.own.at_ b hb).2.1; have := HKN.out a ha; have := HQ.out.2; omega))
                          clear hx hch hx2
                          refine hK.out _ _ (kcv6) (fun hHeld => ?_)
                          clear hK K
                          (try simp only [Act.put, List.setIfInBounds_toArray, List.set_cons_zero, List.set_cons_succ])
                          refine wpAnyH_take (i := 13) (oi := Oper.mk (some 6) (Op.assign (Operand.tmp 45)) 29 "meta.go:116" #[Edge.mk 12 Ground.data, Edge.mk 12 Ground.chain, Edge.mk 0 Ground.phase, Edge.mk 1 Ground.phase, Edge.mk 2 Ground.phase, Edge.mk 3 Ground.phase, Edge.mk 4 Ground.phase, Edge.mk 5 Ground.phase, Edge.mk 6 Ground.phase, Edge.mk 7 Ground.phase, Edge.mk 8 Ground.phase, Edge.mk 9 Ground.phase, Edge.mk 10 Ground.phase, Edge.mk 11 Ground.phase, Edge.mk 12 Ground.phase] none) (v := ?v13x5) rfl (by kernel_rfl) (by kernel_rfl) (by kernel_rfl) (fun _ _ _ h => h) (Or.inl ⟨by rfl, ?hy13x5⟩) (by assumption) ?rest13x5
                          case hy13x5 => (intro w hSw; (try dsimp only at hSw); go_simp; all_goals (with_reducible rfl))
                          (try simp only [Act.put, List.setIfInBounds_toArray, List.set_cons_zero, List.set_cons_succ])
                          refine wpAnyH_done (by kernel_rfl) ?_ _
                          go_wp2
                          go_roundg (gk - 1)
                          case measure => omega
                          case rel => exact ⟨k2 + 1, rd, _, yo', yc', by omega, by go_num, rfl, H16.out⟩
                  -- HANDEND
                · obtain rfl : k2 = m := by omega
                  have hsnap : snapP bs = some ((now, last, l, es.map Nd.pl), r') := by
                    unfold snapP; rw [HP1.out]; simp only [HP2.out, HP3.out, HSA.out, HP5.out]
                    rw [HN.out.many_, Nat.sub_self, many]; simp
                  have HSN := Lib.hid hsnap
                  have hcq := hcW.out.trans HN.out.chg (fun _ _ h => h)
                  have hS3 := HN.out.chg.heap (HS.out.chg.heap H2.out.2.1 (fun h => by have := HH.out.2.2.2.2.1; omega)) (fun h => by have := HH.out.2.2.2.2.1; omega)
                  have hS2 := HN.out.chg.heap (HS.out.chg.heap H2.out.2.2.2.2 (fun h => by have := HH.out.2.2.2.2.1; omega)) (fun h => by have := HH.out.2.2.2.2.1; omega)
                  have HE := Lib.hid (And.intro hcq (And.intro hS3 hS2))
                  clear hsnap hcq hS3 hS2
                  have hrow := HN.out.chg.row HS.out.own.row (fun a ha e => by have := HS.out.new a ha; have := HW.out.1; omega)
                  have HRO := Lib.hid hrow
                  clear hrow
                  go_upto_region 16 with (go_at_call 66; (with_reducible refine (new_rd2 last xo _ xc l _ HS.out.len HRO.out (by omega)).mono ?_); rintro e w17 ⟨ok, bpo, rfl, hb, hg1, hg2⟩; have hS := (Chg.of_below hb (fun _ => False)).heap HE.out.2.1 (fun h => h); obtain ⟨g0, g1, g2⟩ := cells3b hS (Below.refl _ _); have gf := heap_frozen hS 2; have H17 := Lib.hid (And.intro hb (And.intro hg1 (And.intro hg2 hS))); clear hb hg1 hg2 hS)
                  have hS := heap_set H17.out.2.2.2 2 (.pointer bpo)
                  simp only [List.setIfInBounds_toArray, List.set_cons_zero, List.set_cons_succ] at hS
                  have hch := (Chg.refl (fun k => k = w.heap.size + 1) w17).set (p := w.heap.size + 1) rfl 2 (.pointer bpo)
                  have hca := (Chg.of_below H17.out.1 (fun k => k = w.heap.size + 1)).trans hch (fun _ _ h => h)
                  generalize w17.setCell ⟨w.heap.size + 1, 2, none⟩ (.pointer bpo) = w18 at *
                  have H18 := Lib.hid (And.intro hS (And.intro hch hca))
                  clear hS hch hca g0 g1 g2 gf
                  have hnodes : Tr.NodesAt w18 yo es := by
                    have hz := H2.out.2.2.1
                    have hz2 := HS.out.chg.size
                    exact ⟨H18.out.2.2.row HN.out.own.row (fun a ha e => by have := HN.out.new a ha; omega), fun e he => bts_or fun h0 => H18.out.2.2.row (HN.out.body e he).1 (fun a ha e2 => by have := (HN.out.body e he).2.1 a ha; omega)⟩
                  have HND := Lib.hid hnodes
                  clear hnodes
                  go_upto_region 17 with (go_at_call 77; (with_reducible refine (load_rd2 yo _ yc es _ HN.out.len HND.out (by omega)).mono ?_); rintro e w19 ⟨ok2, tpo, rfl, hb, hg1, hg2⟩; have hS := (Chg.of_below hb (fun _ => False)).heap H18.out.1 (fun h => h); obtain ⟨g0, g1, g2⟩ := cells3b hS (Below.refl _ _); have gf := heap_frozen hS 1; have H19 := Lib.hid (And.intro hb (And.intro hg1 (And.intro hg2 hS))); clear hb hg1 hg2 hS)
                  have hS := heap_set H19.out.2.2.2 1 (.pointer tpo)
                  simp only [List.setIfInBounds_toArray, List.set_cons_zero, List.set_cons_succ] at hS
                  have hch := (Chg.refl (fun k => k = w.heap.size + 1) w19).set (p := w.heap.size + 1) rfl 1 (.pointer tpo)
                  have hcw := ((HE.out.1.trans H18.out.2.2 (fun i hi h => by omega)).trans (Chg.of_below H19.out.1 (fun _ => False)) (fun _ _ h => h.elim)).trans hch (fun i hi h => by omega)
                  generalize w19.setCell ⟨w.heap.size + 1, 1, none⟩ (.pointer tpo) = w20 at *
                  have H20 := Lib.hid (And.intro hS (And.intro hch hcw))
                  obtain ⟨s0, s1, s2⟩ := cells3b hS (Below.refl _ _)
                  clear hS hch hcw g0 g1 g2 gf
                  cases ok with
                  | false =>
                    go_wp2_with (go_at_call 74; (with_reducible refine (fail_code _ 23 _ (by decide)).mono ?_); rintro e w21 ⟨rfl, rfl⟩)
                    exact ⟨rfl, .inl ⟨23, by decide, SnapBad.of HSN.out (fun h => H17.out.2.2.1 (by trivial) h.1), rfl, H20.out.2.2⟩⟩
                  | true =>
                    cases ok2 with
                    | false =>
                      go_wp2_with (go_at_call 74; (with_reducible refine (fail_code _ 23 _ (by decide)).mono ?_); rintro e w21 ⟨rfl, rfl⟩)
                      exact ⟨rfl, .inl ⟨23, by decide, SnapBad.of HSN.out (fun h => H19.out.2.2.1 (by trivial) h.2.1), rfl, H20.out.2.2⟩⟩
                    | true =>
                      by_cases hmx : 1099511627776 < now
                      · have hmi : (1099511627776 : Int) < (now : Int) := by omega
                        go_wp2_with (go_at_call 74; (with_reducible refine (fail_code _ 23 _ (by decide)).mono ?_); rintro e w21 ⟨rfl, rfl⟩)
                        exact ⟨rfl, .inl ⟨23, by decide, SnapBad.of HSN.out (fun h => by have := h.2.2; omega), rfl, H20.out.2.2⟩⟩
                      · have hmi : ¬ (1099511627776 : Int) < (now : Int) := by omega
                        obtain ⟨hgB, bp, FB, rfl, hbk, hnb⟩ := H17.out.2.1 (by trivial)
                        obtain ⟨hgT, kp, FT, rfl, htr, hnt⟩ := H19.out.2.1 (by trivial)
                        have hzr : w.heap.size + 2 ≤ wr.heap.size := Nat.le_trans H2.out.2.2.1 (Nat.le_trans HS.out.chg.size HN.out.chg.size)
                        have hz18 := H18.out.2.2.size
                        have hz17 := H18.out.2.1.size
                        have hpw := HH.out.2.2.2.2.1
                        have hDw := HH.out.2.2.2.2.2.1
                        have hR2 := H20.out.2.1.heap ((Chg.of_below H19.out.1 (fun _ => False)).heap (H18.out.2.2.heap HE.out.2.2 (by omega)) (fun h => h)) (show ¬ (w.heap.size = w.heap.size + 1) by omega)
                        obtain ⟨e0, e1, e2⟩ := cells3b hR2 (Below.refl _ _)
                        have ef0 := heap_frozen hR2 0
                        have ef1 := heap_frozen hR2 1
                        have ef2 := heap_frozen hR2 2
                        have g := heap_set (heap_set (heap_set hR2 0 (.int .u64 (now : Int))) 1 (.pointer (some ⟨kp, 0, none⟩))) 2 (.pointer (some ⟨bp, 0, none⟩))
                        simp only [List.setIfInBounds_toArray, List.set_cons_zero, List.set_cons_succ] at g
                        have hch : Chg (fun k => k = w.heap.size) w20 (((w20.setCell ⟨w.heap.size, 0, none⟩ (.int .u64 (now : Int))).setCell ⟨w.heap.size, 1, none⟩ (.pointer (some ⟨kp, 0, none⟩))).setCell ⟨w.heap.size, 2, none⟩ (.pointer (some ⟨bp, 0, none⟩))) := (((Chg.refl (fun k => k = w.heap.size) w20).set (p := w.heap.size) rfl 0 _).set (p := w.heap.size) rfl 1 _).set (p := w.heap.size) rfl 2 _
                        have hbl := hbk.lt
                        have h19s := H19.out.1.size
                        have hbk5 := ((((hbk.keep H18.out.2.1 (fun i hi h => by have := hnb i hi; omega)).keep (Chg.of_below H19.out.1 (fun _ => False)) (fun _ _ h => h)).keep H20.out.2.1 (fun i hi h => by have := hnb i hi; omega)).keep hch (fun i hi h => by have := hnb i hi; omega))
                        have htr5 := (htr.keep H20.out.2.1 (fun i hi h => by have := hnt i hi; omega)).keep hch (fun i hi h => by have := hnt i hi; omega)
                        have hrd5 := ((((HN.out.rdr.keep H18.out.2.2 (fun h => by omega) (fun i hi h => by have := hDw i hi; omega)).keep' H19.out.1).keep H20.out.2.1 (fun h => by omega) (fun i hi h => by have := hDw i hi; omega))).keep hch (fun h => by omega) (fun i hi h => by have := hDw i hi; omega)
                        have HF := Lib.hid (And.intro g (And.intro hbk5 (And.intro htr5 (And.intro hrd5 (And.intro (H20.out.2.2.trans hch (fun i hi h => by omega)) (And.intro hgB hgT))))))
                        have HNW := Lib.hid (show (∀ i ∈ FT, w.heap.size ≤ i) ∧ (∀ i ∈ FB, w.heap.size ≤ i) ∧ ∀ i ∈ FT, i ∉ FB from ⟨fun i hi => by have := hnt i hi; omega, fun i hi => by have := hnb i hi; omega, fun i hi hi2 => by have := hnt i hi; have := hbl i hi2; omega⟩)
                        clear g hbk5 htr5 hrd5 hch hgB hgT hbk hnb htr hnt hR2 hbl
                        go_wp2
                        generalize ((w20.setCell ⟨w.heap.size, 0, none⟩ (.int .u64 (now : Int))).setCell ⟨w.heap.size, 1, none⟩ (.pointer (some ⟨kp, 0, none⟩))).setCell ⟨w.heap.size, 2, none⟩ (.pointer (some ⟨bp, 0, none⟩)) = W5 at *
                        obtain ⟨c0, c1, c2⟩ := cells3b HF.out.1 (Below.refl _ _)
                        refine bodyPost_ret (v := stVal ⟨now, es.map Nd.pl, last, l⟩ kp bp) (w := W5) ?_ rfl ?_
                        · simp [results, Tryz.results71, go_sem, c0, c1, c2, stVal]
                        · exact .inr ⟨⟨now, es.map Nd.pl, last, l⟩, r', kp, bp, FT, FB, ⟨HSN.out, HF.out.2.2.2.2.2.1, HF.out.2.2.2.2.2.2, by show now ≤ _; omega⟩, rfl, HF.out.2.2.2.1, HF.out.2.2.1, HF.out.2.1, HNW.out.1, HNW.out.2.1, HNW.out.2.2, HF.out.2.2.2.2.1⟩
-- END1
end Go.Proofs.YtackmgmaippajaaGreat
