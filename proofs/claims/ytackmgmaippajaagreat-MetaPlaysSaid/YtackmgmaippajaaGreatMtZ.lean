/-
  LAYER 8: a record's closure walked.
-/
import Derived.Test.YtackmgmaippajaaGreatMtYa
namespace Go.Proofs.YtackmgmaippajaaGreat
open Go Go.RowKit

/-- The state behind a record. -/
def RplNow (N : Nat) (w' : World) (sp : Nat) (cs : Array Value) (t : TypeId) (s' : St) (F1 F2 : List Nat) : Prop :=
  ∃ kp' bp' F1' F2', StAt w' sp (((cs.setIfInBounds 0 (.int .u64 (s'.now : Int))).setIfInBounds 1 (.pointer (some ⟨kp', 0, none⟩))).setIfInBounds 2 (.pointer (some ⟨bp', 0, none⟩))) t s' kp' bp' F1' F2' ∧ (∀ k ∈ F1', k ∈ F1 ∨ N ≤ k) ∧ ∀ k ∈ F2', k ∈ F2 ∨ N ≤ k
/-- What a record's closure leaves. -/
def RplPost (s : St) (bs : List UInt8) (p : Nat) (D : Option Nat) (sp : Nat) (cs : Array Value) (t : TypeId) (F1 F2 : List Nat) (w : World) (e : Ending) (w' : World) : Prop :=
  Chg (fun k => (k = sp ∨ k ∈ F1 ∨ k ∈ F2) ∨ k = p) w w' ∧
  ((rplE s bs = none ∧ ∃ code : Int, code ≠ 0 ∧ e = .panicked (thrown code)) ∨
    ∃ s' r, rplE s bs = some (s', r) ∧ e = .returned (.tuple #[]) ∧ RdrAt w' p D r ∧ RplNow w.heap.size w' sp cs t s' F1 F2)
theorem chg_p {S : Nat → Prop} {p : Nat} {w w' : World} (h : Chg (· = p) w w') : Chg (fun k => S k ∨ k = p) w w' := h.to fun _ hk => .inr hk
theorem snap_yes {p : Nat} {D : Option Nat} {bs : List UInt8} {w : World} (h : Calls Tryz.prog 71 #[.pointer (some ⟨p, 0, none⟩)] w (SnapPost p D bs w)) (hg : ∃ s' r, SnapGood bs s' r) :
    Calls Tryz.prog 71 #[.pointer (some ⟨p, 0, none⟩)] w fun e w' => ∃ s r kp bp F1 F2, SnapGood bs s r ∧ e = .returned (stVal s kp bp) ∧ RdrAt w' p D r ∧ Tr.TreeAt w' kp s.ps F1 ∧ Ls.BookAt w' bp s.last s.l F2 ∧ (∀ i ∈ F1, w.heap.size ≤ i) ∧ (∀ i ∈ F2, w.heap.size ≤ i) ∧ (∀ i ∈ F1, i ∉ F2) ∧ Chg (· = p) w w' := by
  obtain ⟨s', r', hg⟩ := hg
  refine h.mono ?_
  rintro e w' (⟨_, _, hb, _⟩ | h)
  · exact absurd hg (hb s' r')
  · exact h
theorem snap_no {p : Nat} {D : Option Nat} {bs : List UInt8} {w : World} (h : Calls Tryz.prog 71 #[.pointer (some ⟨p, 0, none⟩)] w (SnapPost p D bs w)) (hg : ¬ ∃ s' r, SnapGood bs s' r) :
    Calls Tryz.prog 71 #[.pointer (some ⟨p, 0, none⟩)] w fun e w' => (∃ code : Int, code ≠ 0 ∧ e = .panicked (thrown code)) ∧ Chg (· = p) w w' := by
  refine h.mono ?_
  rintro e w' (⟨code, h0, hb, he, hc⟩ | ⟨s, r, _, _, _, _, h, _⟩)
  · exact ⟨⟨code, h0, he⟩, hc⟩
  · exact absurd ⟨s, r, h⟩ hg
theorem StAt.drew {w : World} {sp kp bp : Nat} {cs : Array Value} {t : TypeId} {s : St} {F1 F2 : List Nat} (h : StAt w sp cs t s kp bp F1 F2) : StAt w.drew sp cs t s kp bp F1 F2 := h.stays (Below.refl _ _).drew
theorem rplE_cm0 {s : St} {bs r : List UInt8} {kind : Nat} (h : rdN 1 bs = some (kind, r)) (hk : kind ≠ 7) (hc : cmP kind r = none) : rplE s bs = none := by
  rw [rplE_cmd h hk, hc]
theorem set3_at {cs : Array Value} {a b c x y z : Value} (h0 : cs[0]? = some a) (h1 : cs[1]? = some b) (h2 : cs[2]? = some c) :
    (((cs.setIfInBounds 0 x).setIfInBounds 1 y).setIfInBounds 2 z)[0]? = some x ∧ (((cs.setIfInBounds 0 x).setIfInBounds 1 y).setIfInBounds 2 z)[1]? = some y ∧ (((cs.setIfInBounds 0 x).setIfInBounds 1 y).setIfInBounds 2 z)[2]? = some z := by
  have h0 := (Array.getElem?_eq_some_iff.1 h0).1
  have h1 := (Array.getElem?_eq_some_iff.1 h1).1
  have h2 := (Array.getElem?_eq_some_iff.1 h2).1
  refine ⟨?_, ?_, ?_⟩ <;> simp [Array.getElem?_setIfInBounds, h0, h1, h2]
/-- A command's cells, so many of its numbers read. -/
def cmC (kind : Nat) (key : ByteArray) (vo : Option Addr) (vl vc : Nat) (vs : List Nat) : Array Value := #[.int .u8 (kind : Int), .string key, .slice vo vl vc, .int .u64 ((vs.getD 0 0 : Nat) : Int), .int .u64 ((vs.getD 1 0 : Nat) : Int), .int .u64 ((vs.getD 2 0 : Nat) : Int)]
theorem cmC_set {kind : Nat} {key : ByteArray} {vo : Option Addr} {vl vc k x : Nat} {vs : List Nat} (hl : vs.length = k) (hk : k < 3) : (cmC kind key vo vl vc vs).setIfInBounds (3 + k) (.int .u64 (x : Int)) = cmC kind key vo vl vc (vs ++ [x]) := by
  subst hl
  match vs with
  | [] => rfl
  | [a] => rfl
  | [a, b] => rfl
  | a :: b :: c :: l => simp only [List.length_cons] at hk; omega
theorem cmC_at {kind : Nat} {key : ByteArray} {vo : Option Addr} {vl vc k : Nat} {vs : List Nat} (hl : vs.length = k) (hk : k < 3) : (cmC kind key vo vl vc vs)[3 + k]? = some (.int .u64 0) := by
  subst hl
  match vs with
  | [] => rfl
  | [a] => rfl
  | [a, b] => rfl
  | a :: b :: c :: l => simp only [List.length_cons] at hk; omega
/-- Numbers that are read, one behind the other, into a command's cells. -/
structure RpL (wb wr : World) (p T nb : Nat) (D : Option Nat) (kind : Nat) (key : ByteArray) (vo : Option Addr) (yb : List UInt8) (vc : Nat) (rb r : List UInt8) (k : Nat) (vs : List Nat) : Prop where
  rdr : RdrAt wr p D r
  cmd : wr.heap[T]? = some (.cells (cmC kind key vo yb.length vc vs) 39 (0, 0))
  ptrs : wr.heap[nb]? = some (.cells #[.pointer (some ⟨T, 3, none⟩), .pointer (some ⟨T, 4, none⟩), .pointer (some ⟨T, 5, none⟩)] 139 (0, 0))
  chg : Chg (fun i => i = p ∨ i = T) wb wr
  val : Bts wr vo yb
  new : ∀ a, vo = some a → wb.heap.size ≤ a.block
  len : vs.length = k
  small : r.length ≤ rb.length
  many_ : many (rdN 8) 3 rb = (many (rdN 8) (3 - k) r).map (fun q => (vs ++ q.1, q.2))
theorem RpL.zero {wb w4 w5 : World} {p T : Nat} {D : Option Nat} {kind : Nat} {key : ByteArray} {vo : Option Addr} {yb rb : List UInt8} {vc : Nat} (h : RdrAt w4 p D rb) (hn : w5.heap[w4.heap.size]? = some (.cells #[.pointer (some ⟨T, 3, none⟩), .pointer (some ⟨T, 4, none⟩), .pointer (some ⟨T, 5, none⟩)] 139 (0, 0))) (hb : Below w4.heap.size w4 w5)
    (hc : Chg (fun i => i = p ∨ i = T) wb w4) (hT : w4.heap[T]? = some (.cells (cmC kind key vo yb.length vc []) 39 (0, 0))) (hx : ∀ a, vo = some a → wb.heap.size ≤ a.block) (hv : Bts w4 vo yb) : RpL wb w5 p T w4.heap.size D kind key vo yb vc rb rb 0 [] :=
  ⟨h.keep' hb, (Chg.of_below hb (fun _ => False)).heap hT (fun h => h), hn, hc.trans (Chg.of_below hb (fun _ => False)) (fun _ _ h => h.elim), hv.below hb, hx, rfl, Nat.le_refl _, by simp⟩
theorem RpL.ptr {wb wr : World} {p T nb : Nat} {D : Option Nat} {kind : Nat} {key : ByteArray} {vo : Option Addr} {yb rb r : List UInt8} {vc k : Nat} {vs : List Nat} (h : RpL wb wr p T nb D kind key vo yb vc rb r k vs) (hk : k < 3) : wr.cell? ⟨nb, k, none⟩ = some (.pointer (some ⟨T, 3 + k, none⟩)) := by
  rw [heap_cell h.ptrs k]
  have : k = 0 ∨ k = 1 ∨ k = 2 := by omega
  rcases this with rfl | rfl | rfl <;> rfl
theorem RpL.bad {wb wr : World} {p T nb : Nat} {D : Option Nat} {kind : Nat} {key : ByteArray} {vo : Option Addr} {yb rb r : List UInt8} {vc k : Nat} {vs : List Nat} (h : RpL wb wr p T nb D kind key vo yb vc rb r k vs) (hk : k < 3) (hr : rdN 8 r = none) : many (rdN 8) 3 rb = none := by
  rw [h.many_, show 3 - k = 3 - k - 1 + 1 by omega, many_none hr]; rfl
theorem RpL.all {wb wr : World} {p T nb : Nat} {D : Option Nat} {kind : Nat} {key : ByteArray} {vo : Option Addr} {yb rb r : List UInt8} {vc : Nat} {vs : List Nat} (h : RpL wb wr p T nb D kind key vo yb vc rb r 3 vs) : many (rdN 8) 3 rb = some (vs, r) := by
  rw [h.many_, Nat.sub_self, many]; simp
theorem RpL.next {wb wr w6 : World} {p T nb : Nat} {D : Option Nat} {kind : Nat} {key : ByteArray} {vo : Option Addr} {yb rb r r' : List UInt8} {vc k x : Nat} {vs : List Nat} (h : RpL wb wr p T nb D kind key vo yb vc rb r k vs) (hk : k < 3) (hr : rdN 8 r = some (x, r')) (h6 : RdrAt w6 p D r') (hc : Chg (· = p) wr w6) (hpT : p ≠ T) (hnp : nb ≠ p) (hnT : nb ≠ T) (hD : ∀ i, D = some i → i ≠ T) (hp : p < wb.heap.size) (hT : T < wb.heap.size) :
    RpL wb (w6.setCell ⟨T, 3 + k, none⟩ (.int .u64 (x : Int))) p T nb D kind key vo yb vc rb r' (k + 1) (vs ++ [x]) := by
  have hs := (Chg.refl (· = T) w6).set (p := T) rfl (3 + k) (.int .u64 (x : Int))
  have hcm := heap_set (hc.heap h.cmd (fun e => hpT e.symm)) (3 + k) (.int .u64 (x : Int))
  rw [cmC_set h.len hk] at hcm
  refine ⟨h6.keep hs (fun e => hpT e) (fun i hi e => hD i hi e), hcm, hs.heap (hc.heap h.ptrs hnp) hnT, (h.chg.trans hc (fun _ _ e => .inl e)).trans hs (fun _ _ e => .inr e), hs.row (hc.row h.val (fun a ha e => by have := h.new a ha; omega)) (fun a ha e => by have := h.new a ha; omega), h.new, by rw [List.length_append, h.len]; rfl, Nat.le_trans (rdN_le hr) h.small, ?_⟩
  rw [h.many_, show 3 - k = 3 - (k + 1) + 1 by omega, many_step hr]
  cases many (rdN 8) (3 - (k + 1)) r' <;> simp
theorem rpl_chg {w wr w' : World} {p T sp : Nat} {F1 F2 : List Nat} (h : Chg (fun i => i = p ∨ i = T) w wr) (h2 : Chg (fun k => k = sp ∨ k ∈ F1 ∨ k ∈ F2) wr w') (hT : w.heap.size ≤ T) : Chg (fun k => (k = sp ∨ k ∈ F1 ∨ k ∈ F2) ∨ k = p) w w' := by
  have h3 : Chg (· = p) w w := Chg.refl _ _
  have h4 : Chg (fun k => (k = sp ∨ k ∈ F1 ∨ k ∈ F2) ∨ k = p) w wr := (chg_p h3).trans h (fun i hi e => e.elim .inr (fun e => by omega))
  exact h4.trans h2 (fun _ _ e => .inl e)
-- BEGIN1
set_option maxHeartbeats 4000000 in
set_option maxRecDepth 100000 in
theorem rpl_closure (s : St) (bs : List UInt8) (p : Nat) (D : Option Nat) (sp kp bp SB : Nat) (cs : Array Value) (t : TypeId) (F1 F2 : List Nat) (w : World) (h : StAt w sp cs t s kp bp F1 F2) (hs : s.Wk) (hr : RdrAt w p D bs) (hl : bs.length ≤ 5000)
    (hbx : w.cell? ⟨SB, 0, none⟩ = some (.pointer (some ⟨sp, 0, none⟩))) (hSB : SB < w.heap.size) (hP : p ≠ sp ∧ p ∉ F1 ∧ p ∉ F2 ∧ SB ≠ sp ∧ SB ≠ p ∧ SB ∉ F1 ∧ SB ∉ F2) (hD : ∀ k, D = some k → k < w.heap.size ∧ k ≠ sp ∧ k ∉ F1 ∧ k ∉ F2) :
    Calls Tryz.prog 69 #[.pointer (some ⟨p, 0, none⟩), .pointer (some ⟨SB, 0, none⟩)] w (RplPost s bs p D sp cs t F1 F2 w) := by
  have hpw : p < w.heap.size := by obtain ⟨_, _, h1, _⟩ := hr; exact heap_lt h1
  have HH := Lib.hid (And.intro h (And.intro hs (And.intro hr (And.intro hP (And.intro hD (And.intro hbx (And.intro hSB hpw)))))))
  clear h hs hr hbx hP hD hSB hpw
  go_enter Tryz.func69, Tryz.ntmps69
  cases h1 : rdN 1 bs with
  | none =>
    go_wp2_with (go_at_call 70; (with_reducible refine (u8_no p D bs _ HH.out.2.2.1 h1).mono ?_); rintro e w1 ⟨rfl, rfl⟩)
    exact ⟨rfl, Chg.refl _ _, .inl ⟨rplE_none1 h1, 4, by decide, rfl⟩⟩
  | some q1 =>
    obtain ⟨kind, r1⟩ := q1
    have hl1 := rdN_len h1
    have hk1 := rdN_lt h1
    have HP1 := Lib.hid h1
    clear h1
    go_upto_region 1 with (go_at_call 70; (with_reducible refine (u8_yes p D bs kind r1 _ HH.out.2.2.1 HP1.out (by omega)).mono ?_); rintro e w1 ⟨rfl, hr, hc⟩; have H1 := Lib.hid (And.intro hr hc); clear hr hc)
    have hbw2 := (Below.refl w1.heap.size w1).alloc (Nat.le_refl _) (.cells #[.int .u8 (kind : Int), .string ⟨#[]⟩, .slice none 0 0, .int .u64 0, .int .u64 0, .int .u64 0] 39)
    have h6 := heap_top w1 (.cells #[.int .u8 (kind : Int), .string ⟨#[]⟩, .slice none 0 0, .int .u64 0, .int .u64 0, .int .u64 0] 39)
    generalize w1.alloc (.cells #[.int .u8 (kind : Int), .string ⟨#[]⟩, .slice none 0 0, .int .u64 0, .int .u64 0, .int .u64 0] 39) = W2 at *
    obtain ⟨T, hTq⟩ : ∃ T, w1.heap.size = T := ⟨_, rfl⟩
    have H2 := Lib.hid (And.intro (H1.out.1.keep' hbw2) (And.intro (H1.out.2.trans (Chg.of_below hbw2 (fun _ => False)) (fun _ _ h => h.elim)) (And.intro h6 (show w.heap.size ≤ T by have := H1.out.2.size; omega))))
    have HBX := Lib.hid (H2.out.2.1.cell HH.out.2.2.2.2.2.1 (fun e => HH.out.2.2.2.1.2.2.2.2.1 e))
    rw [hTq] at H2
    rw [hTq]
    obtain ⟨b0, b1, b2, b3, b4, b5⟩ := cells6 H2.out.2.2.1 (Below.refl _ _)
    have HC2 := Lib.hid (H2.out.2.1.trans (Chg.of_below (Below.refl _ _).drew (fun _ => False)) (fun _ _ h => h.elim))
    clear h6 hbw2
    by_cases hk : kind = 7
    · subst hk
      go_upto_region 2 with fail
      have hS0 : W2.drew.cell? ⟨SB, 0, none⟩ = some (.pointer (some ⟨sp, 0, none⟩)) := HBX.out
      have hDk : ∀ k, D = some k → k < W2.drew.heap.size := fun k hk => Nat.lt_of_lt_of_le (HH.out.2.2.2.2.1 k hk).1 H2.out.2.1.size
      have hsn := snap_any p D r1 W2.drew (H2.out.1.keep' (Below.refl _ _).drew) hDk (by omega)
      by_cases hg : ∃ s' r, SnapGood r1 s' r
      · have HSN := Lib.hid (snap_yes hsn hg)
        clear hsn hg hDk
        go_region_held3 (fun wx => wx.cell? ⟨SB, 0, none⟩ = some (.pointer (some ⟨sp, 0, none⟩)))
          (first | exact hS0 | exact hS1 | exact ((((Chg.refl (· = sp) _).set (p := sp) rfl 0 _).set (p := sp) rfl 1 _).set (p := sp) rfl 2 _).cell hS1 HH.out.2.2.2.1.2.2.2.1)
          (first | (go_at_call 71; (with_reducible refine HSN.out.mono ?_); rintro e w3 ⟨s', r, kp', bp', G1, G2, hg, rfl, hr3, ht3, hk3, n1, n2, dis, hc3⟩; dsimp only [stVal]; have hS1 := hc3.cell hS0 HH.out.2.2.2.1.2.2.2.2.1; have hst3 := (HH.out.1.keep H2.out.2.1 (fun e => HH.out.2.2.2.1.1 e.symm) (fun k hk e => HH.out.2.2.2.1.2.1 (e ▸ hk)) (fun k hk e => HH.out.2.2.2.1.2.2.1 (e ▸ hk))).drew.keep hc3 (fun e => HH.out.2.2.2.1.1 e.symm) (fun k hk e => HH.out.2.2.2.1.2.1 (e ▸ hk)) (fun k hk e => HH.out.2.2.2.1.2.2.1 (e ▸ hk)); obtain ⟨z0, z1, z2, zf⟩ := hst3.cell; have zf0 := zf 0; have zf1 := zf 1; have zf2 := zf 2; have H3 := Lib.hid (And.intro hg (And.intro hr3 (And.intro ht3 (And.intro hk3 (And.intro n1 (And.intro n2 (And.intro dis (And.intro hc3 hst3)))))))); clear hg hr3 ht3 hk3 n1 n2 dis hc3 hst3 zf))
        have hch := (((Chg.refl (· = sp) w3).set (p := sp) rfl 0 (.int .u64 (s'.now : Int))).set (p := sp) rfl 1 (.pointer (some ⟨kp', 0, none⟩))).set (p := sp) rfl 2 (.pointer (some ⟨bp', 0, none⟩))
        have hh := heap_set (heap_set (heap_set H3.out.2.2.2.2.2.2.2.2.heap 0 (.int .u64 (s'.now : Int))) 1 (.pointer (some ⟨kp', 0, none⟩))) 2 (.pointer (some ⟨bp', 0, none⟩))
        generalize ((w3.setCell ⟨sp, 0, none⟩ (.int .u64 (s'.now : Int))).setCell ⟨sp, 1, none⟩ (.pointer (some ⟨kp', 0, none⟩))).setCell ⟨sp, 2, none⟩ (.pointer (some ⟨bp', 0, none⟩)) = W5 at *
        have H5 := Lib.hid (And.intro hch hh)
        clear hch hh
        go_wp2
        go_end0
        obtain ⟨hg, hr3, ht3, hk3, n1, n2, dis, hc3, hst3⟩ := H3.out
        have hsz2 : w.heap.size ≤ W2.drew.heap.size := HC2.out.size
        have hsp := HH.out.1.lt
        have hset := set3_at (x := .int .u64 (s'.now : Int)) (y := .pointer (some ⟨kp', 0, none⟩)) (z := .pointer (some ⟨bp', 0, none⟩)) HH.out.1.at0 HH.out.1.at1 HH.out.1.at2
        refine ⟨(chg_p (HC2.out.trans hc3 (fun _ _ h => h))).trans H5.out.1 (fun i hi e => .inl (.inl e)), .inr ⟨s', r, rplE_good HP1.out hg, rfl, hr3.keep H5.out.1 (fun e => HH.out.2.2.2.1.1 e) (fun k hk e => (HH.out.2.2.2.2.1 k hk).2.1 e), kp', bp', G1, G2, ⟨H5.out.2, hset.1, hset.2.1, hset.2.2, ht3.keep H5.out.1 (fun k hk e => by have := n1 k hk; omega), hk3.keep H5.out.1 (fun k hk e => by have := n2 k hk; omega), fun hk => by have := n1 _ hk; omega, fun hk => by have := n2 _ hk; omega, dis⟩, fun k hk => .inr (by have := n1 k hk; omega), fun k hk => .inr (by have := n2 k hk; omega)⟩⟩
      · have HSN := Lib.hid (snap_no hsn hg)
        clear hsn hDk
        -- HAND2
        refine wp_region_held_drew (S := fun wx => wx.cell? ⟨SB, 0, none⟩ = some (.pointer (some ⟨sp, 0, none⟩))) (by kernel_rfl) hS0 (fun hHeld => ?_)
        refine wpAnyH_take (i := 0) (oi := { dst := some 15, op := Op.load 134 (Operand.tmp 1), type := 134, pos := "meta.go:132", after := #[], guard := none }) (v := ?v0x1) rfl (by kernel_rfl) (by kernel_rfl) (by kernel_rfl) (fun _ _ _ h => h) (Or.inl ⟨by rfl, ?hy0x1⟩) (by assumption) ?rest0x1
        case hy0x1 => (intro w hSw; (try dsimp only at hSw); go_simp; all_goals (with_reducible rfl))
        (try simp only [Act.put, List.setIfInBounds_toArray, List.set_cons_zero, List.set_cons_succ])
        refine wpAnyH_take (i := 1) (oi := { dst := some 16, op := Op.move (Operand.tmp 0), type := 136, pos := "meta.go:132", after := #[], guard := none }) (v := ?v1x2) rfl (by kernel_rfl) (by kernel_rfl) (by kernel_rfl) (fun _ _ _ h => h) (Or.inl ⟨by rfl, ?hy1x2⟩) (by assumption) ?rest1x2
        case hy1x2 => (intro w hSw; (try dsimp only at hSw); go_simp; all_goals (with_reducible rfl))
        (try simp only [Act.put, List.setIfInBounds_toArray, List.set_cons_zero, List.set_cons_succ])
        refine wpAnyH_ready (rs := [2]) (by kernel_rfl) (by simp) ?_
        refine AllReadyH.cons (o := { dst := some 17, op := Op.call { callee := Callee.value (Operand.func 71), args := #[Operand.tmp 16], argTypes := #[136] }, type := 109, pos := "meta.go:132", after := #[{ on := 1, ground := Ground.data }], guard := none }) rfl (fun K hK => ?_) AllReadyH.nil
        go_simp
        go_at_call 71
        (with_reducible refine HSN.out.mono ?_)
        rintro e w3 ⟨⟨code, h0, rfl⟩, hc3⟩
        exact ⟨rfl, chg_p (HC2.out.trans hc3 (fun _ _ h => h)), .inl ⟨rplE_bad HP1.out (fun s' r h => hg ⟨s', r, h⟩), code, h0, rfl⟩⟩
        -- HANDEND2
    · have hki : ((kind : Int) == 7) = false := by simp; omega
      go_upto_region 3 with fail
      have HD0 := Lib.hid (H2.out.1.keep' (Below.refl _ _).drew)
      have HT2 := Lib.hid (show W2.drew.heap[T]? = _ from H2.out.2.2.1)
      have HPT := Lib.hid (show p ≠ T by have := HH.out.2.2.2.2.2.2.2; have := H2.out.2.2.2; omega)
      have HPL := Lib.hid (show p < W2.drew.heap.size from Nat.lt_of_lt_of_le HH.out.2.2.2.2.2.2.2 H2.out.2.1.size)
      have HWT := Lib.hid (show T < W2.drew.heap.size from heap_lt HT2.out)
      -- HAND3
      cases hb1 : rdB r1 with
      | none =>
        refine wp_region_held_drew (S := fun _ => Hid True) (by kernel_rfl) (Lib.hid trivial) (fun hHeld => ?_)
        refine wpAnyH_take (i := 0) (oi := { dst := some 19, op := Op.move (Operand.tmp 0), type := 136, pos := "meta.go:135", after := #[], guard := none }) (v := ?v0x3) rfl (by kernel_rfl) (by kernel_rfl) (by kernel_rfl) (fun _ _ _ h => h) (Or.inl ⟨by rfl, ?hy0x3⟩) (by assumption) ?rest0x3
        case hy0x3 => (intro w hSw; (try dsimp only at hSw); go_simp; all_goals (with_reducible rfl))
        (try simp only [Act.put, List.setIfInBounds_toArray, List.set_cons_zero, List.set_cons_succ])
        refine wpAnyH_take (i := 3) (oi := { dst := some 22, op := Op.move (Operand.tmp 0), type := 136, pos := "meta.go:135", after := #[], guard := none }) (v := ?v3x4) rfl (by kernel_rfl) (by kernel_rfl) (by kernel_rfl) (fun _ _ _ h => h) (Or.inl ⟨by rfl, ?hy3x4⟩) (by assumption) ?rest3x4
        case hy3x4 => (intro w hSw; (try dsimp only at hSw); go_simp; all_goals (with_reducible rfl))
        (try simp only [Act.put, List.setIfInBounds_toArray, List.set_cons_zero, List.set_cons_succ])
        refine wpAnyH_ready (rs := [1]) (by kernel_rfl) (by simp) ?_
        refine AllReadyH.cons (o := { dst := some 20, op := Op.call { callee := Callee.value (Operand.func 72), args := #[Operand.tmp 19], argTypes := #[136] }, type := 25, pos := "meta.go:135", after := #[{ on := 0, ground := Ground.data }], guard := none }) rfl (fun K hK => ?_) AllReadyH.nil
        go_simp
        go_at_call 72
        (with_reducible refine (bytes_no p D r1 _ HD0.out hb1 (by omega)).mono ?_)
        rintro e w20 ⟨rfl, hc⟩
        exact ⟨rfl, chg_p (HC2.out.trans hc (fun _ _ h => h)), .inl ⟨rplE_cm0 HP1.out hk (by unfold cmP; rw [hb1]), 4, by decide, rfl⟩⟩
      | some q20 =>
        obtain ⟨ya, ra⟩ := q20
        have hlb1 := rdB_len hb1
        have HPa := Lib.hid hb1
        clear hb1
        cases hb2 : rdB ra with
        | none =>
          refine wp_region_held_drew (S := fun _ => Hid True) (by kernel_rfl) (Lib.hid trivial) (fun hHeld => ?_)
          refine wpAnyH_take (i := 0) (oi := { dst := some 19, op := Op.move (Operand.tmp 0), type := 136, pos := "meta.go:135", after := #[], guard := none }) (v := ?v0x5) rfl (by kernel_rfl) (by kernel_rfl) (by kernel_rfl) (fun _ _ _ h => h) (Or.inl ⟨by rfl, ?hy0x5⟩) (by assumption) ?rest0x5
          case hy0x5 => (intro w hSw; (try dsimp only at hSw); go_simp; all_goals (with_reducible rfl))
          (try simp only [Act.put, List.setIfInBounds_toArray, List.set_cons_zero, List.set_cons_succ])
          refine wpAnyH_take (i := 3) (oi := { dst := some 22, op := Op.move (Operand.tmp 0), type := 136, pos := "meta.go:135", after := #[], guard := none }) (v := ?v3x6) rfl (by kernel_rfl) (by kernel_rfl) (by kernel_rfl) (fun _ _ _ h => h) (Or.inl ⟨by rfl, ?hy3x6⟩) (by assumption) ?rest3x6
          case hy3x6 => (intro w hSw; (try dsimp only at hSw); go_simp; all_goals (with_reducible rfl))
          (try simp only [Act.put, List.setIfInBounds_toArray, List.set_cons_zero, List.set_cons_succ])
          refine wpAnyH_ready (rs := [1]) (by kernel_rfl) (by simp) ?_
          refine AllReadyH.cons (o := { dst := some 20, op := Op.call { callee := Callee.value (Operand.func 72), args := #[Operand.tmp 19], argTypes := #[136] }, type := 25, pos := "meta.go:135", after := #[{ on := 0, ground := Ground.data }], guard := none }) rfl (fun K hK => ?_) AllReadyH.nil
          go_simp
          go_at_call 72
          (with_reducible refine (bytes_yes p D r1 ya ra _ HD0.out HPa.out (by omega)).mono ?_)
          rintro e w11 ⟨ko, kc, rfl, ho, hx, hr, hc⟩
          have kcv1 := conv_bytes w11 Tryz.underlying25 Tryz.underlying5 Tryz.underlying9 ko ya.length kc ya rfl ho.bts
          have H11 := Lib.hid (And.intro hr (And.intro hc (And.intro ho hx)))
          clear ho hx hr hc
          go_wp2_with fail
          refine hK.out _ _ (Lib.hid trivial) (fun hHeld => ?_)
          clear hK K
          (try simp only [Act.put, List.setIfInBounds_toArray, List.set_cons_zero, List.set_cons_succ])
          refine wpAnyH_more (S2 := fun wx => (convert 25 9 (.slice ko ya.length kc)).run Tryz.prog wx = .ok (.string (strOf ya)) wx) (fun _ _ => Lib.hid trivial) _ _ _ _ ?_
          refine wpAnyH_take (i := 2) (oi := { dst := some 21, op := Op.convert 25 9 (Operand.tmp 20), type := 9, pos := "meta.go:135", after := #[{ on := 1, ground := Ground.data }], guard := none }) (v := ?v2x7) rfl (by kernel_rfl) (by kernel_rfl) (by kernel_rfl) (fun _ _ _ h => h) (Or.inl ⟨by rfl, ?hy2x7⟩) (by assumption) ?rest2x7
          case hy2x7 => (intro w hSw; (try dsimp only at hSw); go_simp; all_goals (with_reducible rfl))
          (try simp only [Act.put, List.setIfInBounds_toArray, List.set_cons_zero, List.set_cons_succ])
          refine wpAnyH_ready (rs := [4]) (by kernel_rfl) (by simp) ?_
          refine AllReadyH.cons (o := { dst := some 23, op := Op.call { callee := Callee.value (Operand.func 72), args := #[Operand.tmp 22], argTypes := #[136] }, type := 25, pos := "meta.go:135", after := #[{ on := 3, ground := Ground.data }, { on := 1, ground := Ground.chain }], guard := none }) rfl (fun K hK => ?_) AllReadyH.nil
          go_simp
          go_at_call 72
          (with_reducible refine (bytes_no p D ra _ H11.out.1 hb2 (by omega)).mono ?_)
          rintro e w20 ⟨rfl, hc⟩
          exact ⟨rfl, chg_p ((HC2.out.trans H11.out.2.1 (fun _ _ h => h)).trans hc (fun _ _ h => h)), .inl ⟨rplE_cm0 HP1.out hk (by unfold cmP; rw [HPa.out]; simp only [hb2]), 4, by decide, rfl⟩⟩
        | some q21 =>
          obtain ⟨yb, rb⟩ := q21
          have hlb2 := rdB_len hb2
          have HPb := Lib.hid hb2
          clear hb2
          refine wp_region_held_drew (S := fun _ => Hid True) (by kernel_rfl) (Lib.hid trivial) (fun hHeld => ?_)
          refine wpAnyH_take (i := 0) (oi := { dst := some 19, op := Op.move (Operand.tmp 0), type := 136, pos := "meta.go:135", after := #[], guard := none }) (v := ?v0x8) rfl (by kernel_rfl) (by kernel_rfl) (by kernel_rfl) (fun _ _ _ h => h) (Or.inl ⟨by rfl, ?hy0x8⟩) (by assumption) ?rest0x8
          case hy0x8 => (intro w hSw; (try dsimp only at hSw); go_simp; all_goals (with_reducible rfl))
          (try simp only [Act.put, List.setIfInBounds_toArray, List.set_cons_zero, List.set_cons_succ])
          refine wpAnyH_take (i := 3) (oi := { dst := some 22, op := Op.move (Operand.tmp 0), type := 136, pos := "meta.go:135", after := #[], guard := none }) (v := ?v3x9) rfl (by kernel_rfl) (by kernel_rfl) (by kernel_rfl) (fun _ _ _ h => h) (Or.inl ⟨by rfl, ?hy3x9⟩) (by assumption) ?rest3x9
          case hy3x9 => (intro w hSw; (try dsimp only at hSw); go_simp; all_goals (with_reducible rfl))
          (try simp only [Act.put, List.setIfInBounds_toArray, List.set_cons_zero, List.set_cons_succ])
          refine wpAnyH_ready (rs := [1]) (by kernel_rfl) (by simp) ?_
          refine AllReadyH.cons (o := { dst := some 20, op := Op.call { callee := Callee.value (Operand.func 72), args := #[Operand.tmp 19], argTypes := #[136] }, type := 25, pos := "meta.go:135", after := #[{ on := 0, ground := Ground.data }], guard := none }) rfl (fun K hK => ?_) AllReadyH.nil
          go_simp
          go_at_call 72
          (with_reducible refine (bytes_yes p D r1 ya ra _ HD0.out HPa.out (by omega)).mono ?_)
          rintro e w11 ⟨ko, kc, rfl, ho, hx, hr, hc⟩
          have kcv1 := conv_bytes w11 Tryz.underlying25 Tryz.underlying5 Tryz.underlying9 ko ya.length kc ya rfl ho.bts
          have H11 := Lib.hid (And.intro hr (And.intro hc (And.intro ho hx)))
          clear ho hx hr hc
          go_wp2_with fail
          refine hK.out _ _ (Lib.hid trivial) (fun hHeld => ?_)
          clear hK K
          (try simp only [Act.put, List.setIfInBounds_toArray, List.set_cons_zero, List.set_cons_succ])
          refine wpAnyH_more (S2 := fun wx => (convert 25 9 (.slice ko ya.length kc)).run Tryz.prog wx = .ok (.string (strOf ya)) wx) (fun _ _ => Lib.hid trivial) _ _ _ _ ?_
          refine wpAnyH_take (i := 2) (oi := { dst := some 21, op := Op.convert 25 9 (Operand.tmp 20), type := 9, pos := "meta.go:135", after := #[{ on := 1, ground := Ground.data }], guard := none }) (v := ?v2x10) rfl (by kernel_rfl) (by kernel_rfl) (by kernel_rfl) (fun _ _ _ h => h) (Or.inl ⟨by rfl, ?hy2x10⟩) (by assumption) ?rest2x10
          case hy2x10 => (intro w hSw; (try dsimp only at hSw); go_simp; all_goals (with_reducible rfl))
          (try simp only [Act.put, List.setIfInBounds_toArray, List.set_cons_zero, List.set_cons_succ])
          refine wpAnyH_ready (rs := [4]) (by kernel_rfl) (by simp) ?_
          refine AllReadyH.cons (o := { dst := some 23, op := Op.call { callee := Callee.value (Operand.func 72), args := #[Operand.tmp 22], argTypes := #[136] }, type := 25, pos := "meta.go:135", after := #[{ on := 3, ground := Ground.data }, { on := 1, ground := Ground.chain }], guard := none }) rfl (fun K hK => ?_) AllReadyH.nil
          go_simp
          go_at_call 72
          (with_reducible refine (bytes_yes p D ra yb rb _ H11.out.1 HPb.out (by omega)).mono ?_)
          rintro e w12 ⟨vo, vc, rfl, ho, hx, hr, hc⟩
          have hk12 := H11.out.2.2.1.keep hc (fun a ha e => by have := H11.out.2.2.2 a ha; have := HPL.out; omega)
          have kcv2 := conv_bytes w12 Tryz.underlying25 Tryz.underlying5 Tryz.underlying9 ko ya.length kc ya rfl hk12.bts
          have hT12 := hc.heap (H11.out.2.1.heap HT2.out (fun e => HPT.out e.symm)) (fun e => HPT.out e.symm)
          have s1 := heap_set hT12 1 (.string (strOf ya))
          have s2 := heap_set s1 2 (.slice vo yb.length vc)
          simp only [List.setIfInBounds_toArray, List.set_cons_zero, List.set_cons_succ] at s1 s2
          have c1 := (heap_cell hT12 1)
          have c2 := (heap_cell s1 2)
          simp only [List.getElem?_toArray, List.getElem?_cons_zero, List.getElem?_cons_succ] at c1 c2
          have f1 := heap_frozen hT12 1
          have f2 := heap_frozen s1 2
          have hch1 := (Chg.refl (· = T) w12).set (p := T) rfl 1 (.string (strOf ya))
          have hch2 := hch1.set (p := T) rfl 2 (.slice vo yb.length vc)
          have hkT : ∀ a, ko = some a → ¬ a.block = T := fun a ha e => by have := H11.out.2.2.2 a ha; have := HWT.out; omega
          have kcv3 := conv_bytes (w12.setCell ⟨T, 1, none⟩ (.string (strOf ya))) Tryz.underlying25 Tryz.underlying5 Tryz.underlying9 ko ya.length kc ya rfl (hk12.keep hch1 hkT).bts
          have kcv4 := conv_bytes ((w12.setCell ⟨T, 1, none⟩ (.string (strOf ya))).setCell ⟨T, 2, none⟩ (.slice vo yb.length vc)) Tryz.underlying25 Tryz.underlying5 Tryz.underlying9 ko ya.length kc ya rfl (hk12.keep hch2 hkT).bts
          have H12 := Lib.hid (And.intro hr (And.intro (H11.out.2.1.trans hc (fun _ _ h => h)) (And.intro ho (And.intro (fun a ha => Nat.le_trans H11.out.2.1.size (hx a ha)) (And.intro s2 hch2)))))
          clear ho hx hr hc hk12 s1 s2 hT12 hch1 hch2 hkT
          go_wp2_with fail
          refine hK.out _ _ (kcv2) (fun hHeld => ?_)
          clear hK K
          (try simp only [Act.put, List.setIfInBounds_toArray, List.set_cons_zero, List.set_cons_succ])
          refine wpAnyH_ready (rs := [5]) (by kernel_rfl) (by simp) ?_
          refine AllReadyH.cons (o := { dst := some 24, op := Op.fieldAddr 39 (Operand.tmp 3) 1, type := 0, pos := "meta.go:135", after := #[{ on := 0, ground := Ground.phase }, { on := 1, ground := Ground.phase }, { on := 2, ground := Ground.phase }, { on := 3, ground := Ground.textOnly Departure.lateStores }, { on := 4, ground := Ground.phase }], guard := none }) rfl (fun K hK => ?_) AllReadyH.nil
          go_simp
          refine hK.out _ _ (kcv2) (fun hHeld => ?_)
          clear hK K
          (try simp only [Act.put, List.setIfInBounds_toArray, List.set_cons_zero, List.set_cons_succ])
          refine wpAnyH_ready (rs := [6]) (by kernel_rfl) (by simp) ?_
          refine AllReadyH.cons (o := { dst := none, op := Op.store 9 (Operand.tmp 24) (Operand.tmp 21), type := 0, pos := "meta.go:135", after := #[{ on := 5, ground := Ground.data }, { on := 2, ground := Ground.data }, { on := 4, ground := Ground.chain }, { on := 0, ground := Ground.phase }, { on := 1, ground := Ground.phase }, { on := 2, ground := Ground.phase }, { on := 3, ground := Ground.textOnly Departure.lateStores }, { on := 4, ground := Ground.phase }], guard := none }) rfl (fun K hK => ?_) AllReadyH.nil
          go_simp
          refine hK.out _ _ (kcv3) (fun hHeld => ?_)
          clear hK K
          (try simp only [Act.put, List.setIfInBounds_toArray, List.set_cons_zero, List.set_cons_succ])
          refine wpAnyH_ready (rs := [7]) (by kernel_rfl) (by simp) ?_
          refine AllReadyH.cons (o := { dst := some 25, op := Op.fieldAddr 39 (Operand.tmp 3) 2, type := 0, pos := "meta.go:135", after := #[{ on := 0, ground := Ground.phase }, { on := 1, ground := Ground.phase }, { on := 2, ground := Ground.phase }, { on := 3, ground := Ground.phase }, { on := 4, ground := Ground.phase }, { on := 5, ground := Ground.phase }, { on := 6, ground := Ground.phase }], guard := none }) rfl (fun K hK => ?_) AllReadyH.nil
          go_simp
          refine hK.out _ _ (kcv3) (fun hHeld => ?_)
          clear hK K
          (try simp only [Act.put, List.setIfInBounds_toArray, List.set_cons_zero, List.set_cons_succ])
          refine wpAnyH_ready (rs := [8]) (by kernel_rfl) (by simp) ?_
          refine AllReadyH.cons (o := { dst := none, op := Op.store 25 (Operand.tmp 25) (Operand.tmp 23), type := 0, pos := "meta.go:135", after := #[{ on := 7, ground := Ground.data }, { on := 4, ground := Ground.data }, { on := 6, ground := Ground.chain }, { on := 0, ground := Ground.phase }, { on := 1, ground := Ground.phase }, { on := 2, ground := Ground.phase }, { on := 3, ground := Ground.phase }, { on := 4, ground := Ground.phase }, { on := 5, ground := Ground.phase }, { on := 6, ground := Ground.phase }], guard := none }) rfl (fun K hK => ?_) AllReadyH.nil
          go_simp
          refine hK.out _ _ (kcv4) (fun hHeld => ?_)
          clear hK K
          (try simp only [Act.put, List.setIfInBounds_toArray, List.set_cons_zero, List.set_cons_succ])
          refine wpAnyH_done (by kernel_rfl) ?_ _
      -- HANDEND3
          generalize (w12.setCell ⟨T, 1, none⟩ (.string (strOf ya))).setCell ⟨T, 2, none⟩ (.slice vo yb.length vc) = W4 at *
          have H4 := Lib.hid (show RdrAt W4 p D rb ∧ Chg (fun i => i = p ∨ i = T) W2.drew W4 ∧ Bts W4 vo yb ∧ (∀ a, vo = some a → W2.drew.heap.size ≤ a.block) ∧ W4.heap[T]? = some (.cells (cmC kind (strOf ya) vo yb.length vc []) 39 (0, 0)) from ⟨H12.out.1.keep H12.out.2.2.2.2.2 (fun e => HPT.out e) (fun i hi e => by have := (HH.out.2.2.2.2.1 i hi).1; have := H2.out.2.2.2; omega), (H12.out.2.1.to fun _ e => .inl e).trans H12.out.2.2.2.2.2 (fun _ _ e => .inr e), (H12.out.2.2.1.keep H12.out.2.2.2.2.2 (fun a ha e => by have := H12.out.2.2.2.1 a ha; have := HWT.out; omega)).bts, H12.out.2.2.2.1, H12.out.2.2.2.2.1⟩)
          clear H11 H12 kcv1 kcv2 kcv3 kcv4 c1 c2 f1 f2
          go_wp2
          have hbs := (Below.refl W4.heap.size W4).alloc (Nat.le_refl _) (.cells #[.pointer (some ⟨T, 3, none⟩), .pointer (some ⟨T, 4, none⟩), .pointer (some ⟨T, 5, none⟩)] 139)
          have hns := heap_top W4 (.cells #[.pointer (some ⟨T, 3, none⟩), .pointer (some ⟨T, 4, none⟩), .pointer (some ⟨T, 5, none⟩)] 139)
          have hTl := heap_lt H4.out.2.2.2.2
          obtain ⟨nb, hnb⟩ : ∃ nb, W4.heap.size = nb := ⟨_, rfl⟩
          have HS := Lib.hid (RpL.zero H4.out.1 hns hbs H4.out.2.1 H4.out.2.2.2.2 (fun a ha => by have := H4.out.2.2.2.1 a ha; omega) H4.out.2.2.1)
          clear hbs hns
          rw [hnb] at HS ⊢
          generalize W4.alloc (.cells #[.pointer (some ⟨T, 3, none⟩), .pointer (some ⟨T, 4, none⟩), .pointer (some ⟨T, 5, none⟩)] 139) = W5 at *
          go_loopg [31] 3 (fun g i wr => ∃ (k : Nat) (vs : List Nat) (r : List UInt8), g + k = 3 ∧ i = .int .i64 (k : Int) ∧ RpL W2.drew wr p T nb D kind (strOf ya) vo yb vc rb r k vs)
          case atStart => exact ⟨0, [], rb, rfl, rfl, HS.out⟩
          case round =>
            obtain ⟨k, vs, r, hgk, rfl, hrel⟩ := hrel
            have HR := Lib.hid hrel
            clear hrel
            by_cases hk3 : k < 3
            · have hki3 : (k : Int) < 3 := by omega
              have hx := HR.out.ptr hk3
              cases hr8 : rdN 8 r with
              | none =>
                go_wp2_with (go_at_call 73; (with_reducible refine (u64_no p D r _ HR.out.rdr hr8).mono ?_); rintro e w20 ⟨rfl, rfl⟩)
                exact ⟨rfl, (chg_p HC2.out).trans HR.out.chg (fun i hi e => e.elim .inr (fun e => by have := H2.out.2.2.2; omega)), .inl ⟨rplE_cm0 HP1.out hk (by unfold cmP; rw [HPa.out]; simp only [HPb.out]; rw [HR.out.bad hk3 hr8]), 4, by decide, rfl⟩⟩
              | some q =>
                obtain ⟨x, r'⟩ := q
                have hl8 := rdN_len hr8
                have HP8 := Lib.hid hr8
                have hsm := HR.out.small
                clear hr8
                go_wp2_with (go_at_call 73; (with_reducible refine (u64_yes p D r x r' _ HR.out.rdr HP8.out (by omega)).mono ?_); rintro e w6 ⟨rfl, hr, hc⟩; have hcm := hc.heap HR.out.cmd (fun e => HPT.out e.symm); have c1 := heap_cell hcm (3 + k); rw [cmC_at HR.out.len hk3] at c1; have f1 := heap_frozen hcm (3 + k); have H6 := Lib.hid (And.intro hr (And.intro hc hcm)); clear hr hc hcm)
                go_roundg (gk - 1)
                case measure => omega
                case rel => exact ⟨k + 1, vs ++ [x], r', by omega, by go_num, HR.out.next hk3 HP8.out H6.out.1 H6.out.2.1 HPT.out (fun e => by have := HH.out.2.2.2.2.2.2.2; have := H2.out.2.2.2; omega) (fun e => by have := HWT.out; omega) (fun i hi e => by have := (HH.out.2.2.2.2.1 i hi).1; have := H2.out.2.2.2; omega) HPL.out HWT.out⟩
            · obtain rfl : k = 3 := by omega
              obtain ⟨x1, x2, x3, rfl⟩ : ∃ x1 x2 x3, vs = [x1, x2, x3] := by
                match vs, HR.out.len with
                | [x1, x2, x3], _ => exact ⟨x1, x2, x3, rfl⟩
              have hcp : cmP kind r1 = some (⟨kind, strOf ya, yb, x1, x2, x3⟩, r) := by unfold cmP; rw [HPa.out]; simp only [HPb.out]; rw [HR.out.all]; rfl
              have hft := cmP_fit (show kind < 256 by omega) (by omega) hcp
              have HE := Lib.hid (rplE_cmd (s := s) HP1.out hk)
              rw [hcp] at HE
              obtain ⟨c, hc⟩ : ∃ c : Cm, c = ⟨kind, strOf ya, yb, x1, x2, x3⟩ := ⟨_, rfl⟩
              have hcells : c.cells vo vc = #[.int .u8 (kind : Int), .string (strOf ya), .slice vo yb.length vc, .int .u64 (x1 : Int), .int .u64 (x2 : Int), .int .u64 (x3 : Int)] := by rw [hc]; rfl
              have hval : Bts wr vo c.val := by rw [hc]; exact HR.out.val
              rw [← hc] at HE hft
              have hcw : Chg (fun i => i = p ∨ i = T) w wr := (HC2.out.to fun _ e => .inl e).trans HR.out.chg (fun _ _ e => e)
              have hst := HH.out.1.keep hcw (fun e => e.elim (fun e => HH.out.2.2.2.1.1 e.symm) (fun e => by have := HH.out.1.lt; have := H2.out.2.2.2; omega)) (fun i hi e => e.elim (fun e => HH.out.2.2.2.1.2.1 (e ▸ hi)) (fun e => by have := HH.out.1.tree.lt i hi; have := H2.out.2.2.2; omega)) (fun i hi e => e.elim (fun e => HH.out.2.2.2.1.2.2.1 (e ▸ hi)) (fun e => by have := HH.out.1.book.lt i hi; have := H2.out.2.2.2; omega))
              have hdo := do_any s c vo vc sp kp bp cs t F1 F2 wr hst HH.out.2.1 hft.1 hval
              rw [hcells] at hdo
              have hbx := hcw.cell HH.out.2.2.2.2.2.1 (fun e => e.elim (fun e => HH.out.2.2.2.1.2.2.2.2.1 e) (fun e => by have e : SB = T := e; have := HH.out.2.2.2.2.2.2.1; have := H2.out.2.2.2; omega))
              have hcm : wr.heap[T]? = some (.cells #[.int .u8 (kind : Int), .string (strOf ya), .slice vo yb.length vc, .int .u64 (x1 : Int), .int .u64 (x2 : Int), .int .u64 (x3 : Int)] 39 (0, 0)) := HR.out.cmd
              obtain ⟨d0, d1, d2, d3, d4, d5⟩ := cells6 hcm (Below.refl _ _)
              have HDO := Lib.hid hdo
              have HW := Lib.hid (And.intro hcw hcm)
              clear hst hdo hcm hcw hval hcells hcp hc
              have HFT := Lib.hid hft
              clear hft
              by_cases h0 : (doS s c).2.2.2 = 0
              · go_wp2_with (first
                  | (go_at_call 48; (with_reducible refine HDO.out.mono ?_); rintro e w7 ⟨uo, uc, rfl, ho, hn, hnow⟩; have H7 := Lib.hid hnow; clear ho hn hnow; rw [h0])
                  | (go_at_call 74; (with_reducible refine (fail_zero _ _).mono ?_); rintro e w8 ⟨rfl, rfl⟩))
                go_end0
                obtain ⟨F1', F2', hst7, hc7, g1, g2⟩ := H7.out
                have hE : rplE s bs = some ((doS s c).1, r) := by rw [HE.out]; exact if_pos h0
                have hsw := HW.out.1.size
                refine ⟨rpl_chg HW.out.1 hc7 H2.out.2.2.2, .inr ⟨(doS s c).1, r, hE, rfl, HR.out.rdr.keep hc7 (fun e => ?_) (fun i hi e => ?_), kp, bp, F1', F2', ?_, fun k hk => (g1 k hk).imp id (Nat.le_trans hsw), fun k hk => (g2 k hk).imp id (Nat.le_trans hsw)⟩⟩
                · rcases e with e | e | e
                  · exact HH.out.2.2.2.1.1 e
                  · exact HH.out.2.2.2.1.2.1 e
                  · exact HH.out.2.2.2.1.2.2.1 e
                · have := HH.out.2.2.2.2.1 i hi
                  rcases e with e | e | e
                  · exact this.2.1 e
                  · exact this.2.2.1 e
                  · exact this.2.2.2 e
                · rw [set_self (i := 1) hst7.at1, set_self (i := 2) hst7.at2]; exact hst7
              · have h0' : (doS s c).2.2.2 ≠ 0 := h0
                go_wp2_with (first
                  | (go_at_call 48; (with_reducible refine HDO.out.mono ?_); rintro e w7 ⟨uo, uc, rfl, ho, hn, hnow⟩; have H7 := Lib.hid hnow; clear ho hn hnow)
                  | (go_at_call 74; (with_reducible refine (fail_code _ _ _ h0').mono ?_); rintro e w8 ⟨rfl, rfl⟩))
                have hE : rplE s bs = none := by rw [HE.out]; exact if_neg h0
                obtain ⟨F1', F2', hst7, hc7, g1, g2⟩ := H7.out
                exact ⟨rfl, rpl_chg HW.out.1 hc7 H2.out.2.2.2, .inl ⟨hE, _, h0, rfl⟩⟩
-- END1
end Go.Proofs.YtackmgmaippajaaGreat
