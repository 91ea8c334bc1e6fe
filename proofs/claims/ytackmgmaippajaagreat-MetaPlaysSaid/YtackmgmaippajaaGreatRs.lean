/-
  LAYER 8: the document's State in memory; its Do (walks printed by m8rdo.py behind '-- DOS').
-/
import Derived.Test.YtackmgmaippajaaGreatRtX
import Derived.Test.YtackmgmaippajaaGreatRtD
import Derived.Test.YtackmgmaippajaaGreatRbO
import Derived.Test.YtackmgmaippajaaGreatMtC
import Derived.Test.YtackmgmaippajaaGreatMtB
namespace Go.Proofs.YtackmgmaippajaaGreat
open Go Go.RowKit

/-- The document's state: the first four cells of the block q. -/
structure RsAt (w : World) (q : Nat) (cs : Array Value) (t : TypeId) (s : St) (G F : List Nat) : Prop where
  at0 : cs[0]? = some (.int .u64 (s.now : Int))
  tree : Tr.RTreeAt w q cs t s.ps G
  book : Ls.RBookAt w q cs t s.last s.l F
/-- What the document's command does. -/
def doD (s : St) (c : Cm) : St × Nat × List Nat × Int :=
  if late s c then (s, 0, [], 15) else
  if c.kind = 1 then ({ s with ps := (Tr.putR s.ps c.key c.val c.want c.sess).1 }, (Tr.putR s.ps c.key c.val c.want c.sess).2.1, [], (Tr.putR s.ps c.key c.val c.want c.sess).2.2) else
  if c.kind = 2 then ({ s with ps := (Tr.delP s.ps c.key c.want).1 }, 0, [], (Tr.delP s.ps c.key c.want).2) else
  if c.kind = 3 then ({ s with last := (Ls.openL s.last s.l s.now c.ticks).2.1, l := (Ls.openL s.last s.l s.now c.ticks).2.2 }, (Ls.openL s.last s.l s.now c.ticks).1.1, [], (Ls.openL s.last s.l s.now c.ticks).1.2) else
  if c.kind = 4 then ({ s with l := (Ls.renewL s.l c.sess s.now).1 }, 0, [], (Ls.renewL s.l c.sess s.now).2) else
  if c.kind = 5 then ({ s with l := (Ls.closeL s.l c.sess).1, ps := if (Ls.closeL s.l c.sess).2 = 0 then Tr.dropP s.ps c.sess else s.ps }, 0, [], (Ls.closeL s.l c.sess).2) else
  if c.kind = 6 then
    ({ s with now := s.now + min c.ticks (1099511627776 - s.now), l := Ls.stays s.l (s.now + min c.ticks (1099511627776 - s.now)), ps := dropAll s.ps (Ls.expired s.l (s.now + min c.ticks (1099511627776 - s.now))) },
      s.now + min c.ticks (1099511627776 - s.now), Ls.expired s.l (s.now + min c.ticks (1099511627776 - s.now)), 0) else
  if c.kind = 7 then (s, 0, [], 0) else (s, 0, [], 16)
/-- What the document's state is at any time. -/
structure St.Wr (s : St) : Prop where
  many : s.ps.length ≤ 256
  now : s.now ≤ 1099511627776
  last : s.last < 18446744073709551616
  len : s.l.length ≤ 16
  life : ∀ e ∈ s.l, e.life < 18446744073709551616
section
variable {w w' w1 w0 : World} {q T : Nat} {cs cs' : Array Value} {t : TypeId} {s s' : St} {G F Gc Fc : List Nat} {o : Obj}
theorem _root_.Go.Proofs.YtackmgmaippajaaGreat.Tr.RTreeAt.heap {rs : List Tr.Pl} (h : Tr.RTreeAt w q cs t rs G) : w.heap[q]? = some (.cells cs t (0, 0)) := by
  obtain ⟨lo, n, cap, l, h⟩ := h
  exact h.heap
theorem _root_.Go.Proofs.YtackmgmaippajaaGreat.Tr.RTreeAt.at1 {rs : List Tr.Pl} (h : Tr.RTreeAt w q cs t rs G) : ∃ v, cs[1]? = some v := by
  obtain ⟨lo, n, cap, l, h⟩ := h
  exact ⟨_, h.at1⟩
theorem _root_.Go.Proofs.YtackmgmaippajaaGreat.Tr.RTreeAt.other {rs : List Tr.Pl} (h : Tr.RTreeAt w q cs t rs G) (hc : Chg (· = q) w w') (hh : w'.heap[q]? = some (.cells cs' t (0, 0))) (h1 : cs'[1]? = cs[1]?) : Tr.RTreeAt w' q cs' t rs G := by
  obtain ⟨lo, n, cap, l, h⟩ := h
  exact ⟨lo, n, cap, l, h.map, hh, h1.trans h.at1, h.own.keep hc (fun a ha e => h.apart (Tr.mem_blk.2 ⟨a, ha, e⟩)), h.apart, fun e he => ⟨hc.row (h.body e he).1 (fun a ha => ((h.body e he).2 a ha).2), (h.body e he).2⟩, h.qG, h.bG, fun k hk => Nat.lt_of_lt_of_le (h.lt k hk) hc.size⟩
theorem _root_.Go.Proofs.YtackmgmaippajaaGreat.Ls.RBookAt.heap {last : Nat} {l : List Ls.Sess} (h : Ls.RBookAt w q cs t last l F) : w.heap[q]? = some (.cells cs t (0, 0)) := by
  obtain ⟨lo, n, cap, h, _⟩ := h
  exact h.heap
theorem _root_.Go.Proofs.YtackmgmaippajaaGreat.Ls.RBookAt.other {last : Nat} {l : List Ls.Sess} (h : Ls.RBookAt w q cs t last l F) (hc : Chg (· = q) w w') (hh : w'.heap[q]? = some (.cells cs' t (0, 0))) (h2 : cs'[2]? = cs[2]?) (h3 : cs'[3]? = cs[3]?) : Ls.RBookAt w' q cs' t last l F := by
  obtain ⟨lo, n, cap, h1, ho, hq, hF⟩ := h
  exact ⟨lo, n, cap, ⟨hh, h2.trans h1.at2, h3.trans h1.at3⟩, ho.keep hc (fun a ha e => hq (Ls.mem_blk.2 ⟨a, ha, e⟩)), hq, hF⟩
theorem RsAt.keep (h : RsAt w q cs t s G F) {S : Nat → Prop} (hc : Chg S w w') (h1 : ∀ k ∈ G, ¬ S k) (h2 : ∀ k ∈ F, ¬ S k) : RsAt w' q cs t s G F := ⟨h.at0, h.tree.keep hc h1, h.book.keep hc h2⟩
theorem RsAt.stays (h : RsAt w q cs t s G F) (hb : Below w.heap.size w w') : RsAt w' q cs t s G F := h.keep (Chg.of_below hb (fun _ => False)) (fun _ _ h => h) (fun _ _ h => h)
theorem RsAt.lt (h : RsAt w q cs t s G F) : q < w.heap.size := heap_lt h.tree.heap
theorem RsAt.cell (h : RsAt w q cs t s G F) : w.cell? ⟨q, 0, none⟩ = some (.int .u64 (s.now : Int)) ∧ ∀ i, w.frozen? ⟨q, i, none⟩ = false := ⟨(heap_cell h.tree.heap 0).trans h.at0, fun i => heap_frozen h.tree.heap i⟩
/-- The document's state within a command's run: what has turned since its entry. -/
structure MidR (w w0 : World) (q : Nat) (cs0 cs : Array Value) (t : TypeId) (s : St) (G F Gc Fc : List Nat) (T : Nat) (o : Obj) : Prop where
  st : RsAt w0 q cs t s Gc Fc
  box : w0.heap[T]? = some o
  ne : T ≠ q
  chg : Chg (· = q) w w0
  g1 : ∀ k ∈ Gc, k ∈ G ∨ w.heap.size ≤ k
  g2 : ∀ k ∈ Fc, k ∈ F ∨ w.heap.size ≤ k
  up : ∀ i, 4 ≤ i → cs[i]? = cs0[i]?
variable {cs0 : Array Value}
theorem MidR.enter (h : RsAt w q cs t s G F) (o : Obj) : MidR w (w.alloc o) q cs cs t s G F G F w.heap.size o :=
  ⟨h.stays ((Below.refl _ _).alloc (Nat.le_refl _) o), heap_top w o, fun e => by have := h.lt; omega, Chg.of_below ((Below.refl _ _).alloc (Nat.le_refl _) o) _, fun _ h => .inl h, fun _ h => .inl h, fun _ _ => rfl⟩
theorem MidR.stays (h : MidR w w0 q cs0 cs t s G F Gc Fc T o) (hb : Below w0.heap.size w0 w1) : MidR w w1 q cs0 cs t s G F Gc Fc T o :=
  ⟨h.st.stays hb, (Chg.of_below hb (fun _ => False)).heap h.box (fun h => h), h.ne, h.chg.trans (Chg.of_below hb _) (fun _ _ h => h), h.g1, h.g2, h.up⟩
theorem MidR.drew (h : MidR w w0 q cs0 cs t s G F Gc Fc T o) : MidR w w0.drew q cs0 cs t s G F Gc Fc T o := h.stays (Below.refl _ _).drew
theorem MidR.drewN (h : MidR w w0 q cs0 cs t s G F Gc Fc T o) (n : Nat) : MidR w (w0.drewN n) q cs0 cs t s G F Gc Fc T o := h.stays (below_drewN (Below.refl _ _) n)
theorem MidR.tree {ps : List Tr.Pl} (h : MidR w w0 q cs0 cs t s G F Gc Fc T o) (hw : Tr.RWrote w0 w1 q cs t ps Gc) : ∃ cs1 Gc', MidR w w1 q cs0 cs1 t { s with ps := ps } G F Gc' Fc T o := by
  obtain ⟨G', v, h1, hc, hg⟩ := hw
  refine ⟨_, G', ⟨?_, h1, h.st.book.other hc h1.heap ?_ ?_⟩, hc.heap h.box h.ne, h.ne, h.chg.trans hc (fun _ _ h => h), fun k hk => ?_, h.g2, fun i hi => ?_⟩
  · have := h.st.at0; simpa [Array.getElem?_setIfInBounds] using this
  · simp [Array.getElem?_setIfInBounds]
  · simp [Array.getElem?_setIfInBounds]
  · rcases hg k hk with h' | h'
    · exact h.g1 k h'
    · exact .inr (Nat.le_trans h.chg.size h')
  · rw [Array.getElem?_setIfInBounds, if_neg (by omega)]; exact h.up i hi
theorem MidR.book {last : Nat} {l : List Ls.Sess} (h : MidR w w0 q cs0 cs t s G F Gc Fc T o) (hw : Ls.RWrote w0 w1 q cs t last l Fc) : ∃ cs1 Fc', MidR w w1 q cs0 cs1 t { s with last := last, l := l } G F Gc Fc' T o := by
  obtain ⟨F', v, h1, hc, hg⟩ := hw
  refine ⟨_, F', ⟨?_, h.st.tree.other hc h1.heap ?_, h1⟩, hc.heap h.box h.ne, h.ne, h.chg.trans hc (fun _ _ h => h), h.g1, fun k hk => ?_, fun i hi => ?_⟩
  · have := h.st.at0; simpa [Array.getElem?_setIfInBounds] using this
  · simp [Array.getElem?_setIfInBounds]
  · rcases hg k hk with h' | h'
    · exact h.g2 k h'
    · exact .inr (Nat.le_trans h.chg.size h')
  · rw [Array.getElem?_setIfInBounds, if_neg (by omega), Array.getElem?_setIfInBounds, if_neg (by omega)]; exact h.up i hi
theorem MidR.now (h : MidR w w0 q cs0 cs t s G F Gc Fc T o) (n : Nat) : MidR w (w0.setCell ⟨q, 0, none⟩ (.int .u64 (n : Int))) q cs0 (cs.setIfInBounds 0 (.int .u64 (n : Int))) t { s with now := n } G F Gc Fc T o := by
  have hc := Chg.one w0 q 0 (.int .u64 (n : Int))
  have hi := (Array.getElem?_eq_some_iff.1 h.st.at0).1
  have hh := heap_set h.st.tree.heap 0 (.int .u64 (n : Int))
  refine ⟨⟨by simp [hi], h.st.tree.other hc hh (by simp [Array.getElem?_setIfInBounds]), h.st.book.other hc hh (by simp [Array.getElem?_setIfInBounds]) (by simp [Array.getElem?_setIfInBounds])⟩, hc.heap h.box h.ne, h.ne, h.chg.set rfl 0 _, h.g1, h.g2, fun i hi => ?_⟩
  rw [Array.getElem?_setIfInBounds, if_neg (by omega)]; exact h.up i hi
/-- What a command leaves of the document's state. -/
def RsNow (w w' : World) (q : Nat) (cs0 : Array Value) (t : TypeId) (s : St) (G F : List Nat) : Prop :=
  ∃ cs G' F', RsAt w' q cs t s G' F' ∧ Chg (· = q) w w' ∧ (∀ k ∈ G', k ∈ G ∨ w.heap.size ≤ k) ∧ (∀ k ∈ F', k ∈ F ∨ w.heap.size ≤ k) ∧ ∀ i, 4 ≤ i → cs[i]? = cs0[i]?
theorem MidR.done (h : MidR w w0 q cs0 cs t s G F Gc Fc T o) : RsNow w w0 q cs0 t s G F := ⟨cs, Gc, Fc, h.st, h.chg, h.g1, h.g2, h.up⟩
theorem MidR.doneT {ps : List Tr.Pl} (h : MidR w w0 q cs0 cs t s G F Gc Fc T o) (hw : Tr.RWrote w0 w1 q cs t ps Gc) : RsNow w w1 q cs0 t { s with ps := ps } G F := by
  obtain ⟨_, _, hm⟩ := h.tree hw
  exact hm.done
theorem MidR.doneB {last : Nat} {l : List Ls.Sess} (h : MidR w w0 q cs0 cs t s G F Gc Fc T o) (hw : Ls.RWrote w0 w1 q cs t last l Fc) : RsNow w w1 q cs0 t { s with last := last, l := l } G F := by
  obtain ⟨_, _, hm⟩ := h.book hw
  exact hm.done
/-- What a region reads: the state's time, the command's cells. -/
def SeesR (w0 : World) (q T : Nat) (now : Nat) (key : ByteArray) (vv : Value) (want sess ticks : Nat) : Prop :=
  w0.cell? ⟨q, 0, none⟩ = some (.int .u64 (now : Int)) ∧
  w0.cell? ⟨T, 1, none⟩ = some (.string key) ∧ w0.cell? ⟨T, 2, none⟩ = some vv ∧ w0.cell? ⟨T, 3, none⟩ = some (.int .u64 (want : Int)) ∧ w0.cell? ⟨T, 4, none⟩ = some (.int .u64 (sess : Int)) ∧ w0.cell? ⟨T, 5, none⟩ = some (.int .u64 (ticks : Int))
theorem MidR.sees {now want sess ticks : Nat} {key : ByteArray} {k vv : Value} (h : MidR w w0 q cs0 cs t s G F Gc Fc T (.cells #[k, .string key, vv, .int .u64 (want : Int), .int .u64 (sess : Int), .int .u64 (ticks : Int)] 39)) (hn : s.now = now) : SeesR w0 q T now key vv want sess ticks := by
  obtain ⟨a0, a1, a2, a3, a4, a5⟩ := cells6 h.box (Below.refl _ _)
  subst hn
  exact ⟨h.st.cell.1, a1, a2, a3, a4, a5⟩
end
/-- What a command of the document answers, and leaves. -/
def DidR (w : World) (q : Nat) (cs : Array Value) (t : TypeId) (d : St × Nat × List Nat × Int) (G F : List Nat) (e : Ending) (w' : World) : Prop :=
  ∃ uo uc, e = .returned (.tuple #[.int .u64 (d.2.1 : Int), .slice uo d.2.2.1.length uc, .int .i64 d.2.2.2]) ∧ Own w' 1 uo d.2.2.1.length uc (d.2.2.1.map Ls.idCell) ∧ (∀ a, uo = some a → w.heap.size ≤ a.block) ∧ RsNow w w' q cs t d.1 G F
theorem DidR.none' {w w' : World} {q : Nat} {cs : Array Value} {t : TypeId} {s' : St} {G F : List Nat} {n : Nat} {code : Int} {e : Ending} (he : e = .returned (.tuple #[.int .u64 (n : Int), .slice none 0 0, .int .i64 code])) (h : RsNow w w' q cs t s' G F) : DidR w q cs t (s', n, [], code) G F e w' :=
  ⟨none, 0, he, Own.nil' _ _, by simp, h⟩
theorem drop_len2 {ps : List Tr.Pl} {own : Nat} : (Tr.dropP ps own).length ≤ ps.length := by
  unfold Tr.dropP
  split
  · exact Nat.le_refl _
  · exact List.length_filter_le ..
theorem _root_.Go.Proofs.YtackmgmaippajaaGreat.Tr.RWrote.chg {w w' : World} {q : Nat} {cs : Array Value} {t : TypeId} {rs : List Tr.Pl} {G : List Nat} (h : Tr.RWrote w w' q cs t rs G) : Chg (· = q) w w' := by
  obtain ⟨_, _, _, hc, _⟩ := h
  exact hc
-- DOS
-- BEGINopen
set_option maxHeartbeats 4000000 in
set_option maxRecDepth 100000 in
theorem rdo_open (s : St) (c : Cm) (vo : Option Addr) (vc : Nat) (q : Nat) (cs : Array Value) (t : TypeId) (G F : List Nat) (w : World) (h : RsAt w q cs t s G F) (hs : s.Wr) (hc : c.Fit) (hv : Bts w vo c.val) (hk : c.kind = 3) :
    Calls Tryz.prog 10 #[.pointer (some ⟨q, 0, none⟩), .agg (c.cells vo vc)] w (DidR w q cs t (doD s c) G F) := by
  have HD := Lib.hid (show doD s c = ({ s with last := (Ls.openL s.last s.l s.now c.ticks).2.1, l := (Ls.openL s.last s.l s.now c.ticks).2.2 }, (Ls.openL s.last s.l s.now c.ticks).1.1, [], (Ls.openL s.last s.l s.now c.ticks).1.2) by simp [doD, late, hk])
  obtain ⟨kind, key, val, want, sess, ticks⟩ := c
  have HC := Lib.hid hc
  have HV := Lib.hid hv
  dsimp only at hk
  subst hk
  have HR := Lib.hid (MidR.enter h (.cells (Cm.cells ⟨3, key, val, want, sess, ticks⟩ vo vc) 39))
  have HBW := Lib.hid ((Below.refl w.heap.size w).alloc (Nat.le_refl _) (.cells (Cm.cells ⟨3, key, val, want, sess, ticks⟩ vo vc) 39))
  have HVW := Lib.hid (HV.out.below HBW.out)
  have HW := Lib.hid hs
  obtain ⟨now, hnow⟩ : ∃ now, s.now = now := ⟨_, rfl⟩
  have HN := Lib.hid hnow
  have hn40 : now ≤ 1099511627776 := hnow ▸ hs.now
  have hn64 : now < 18446744073709551616 := by omega
  clear h hs hnow hc hv
  dsimp only [Cm.cells] at *
  go_enter Tryz.func10, Tryz.ntmps10
  go_upto_region 1 with fail
  obtain ⟨a0, a1, a2, a3, a4, a5⟩ := cells6 HR.out.box (Below.refl _ _)
  generalize w.alloc (.cells #[.int .u8 ((3 : Nat) : Int), .string key, .slice vo val.length vc, .int .u64 (want : Int), .int .u64 (sess : Int), .int .u64 (ticks : Int)] 39) = wb at *
  generalize hT : w.heap.size = T at *
  go_quiet (fail)
  have HQ := Lib.hid (HR.out.drewN nq)
  have HVQ := Lib.hid (HVW.out.below (below_drewN (Below.refl _ wb) nq))
  obtain ⟨b0, b1, b2, b3, b4, b5⟩ := cells6 HQ.out.box (Below.refl _ _)
  generalize wb.drewN nq = w0 at *
  go_upto_region 10 with fail
  have HQd := Lib.hid HQ.out.drew
  have hS2 := HQd.out.sees HN.out
  unfold SeesR at hS2
  go_region_held3 (fun wx => wx.cell? ⟨q, 0, none⟩ = some (.int .u64 (now : Int)) ∧
      wx.cell? ⟨T, 1, none⟩ = some (.string key) ∧ wx.cell? ⟨T, 2, none⟩ = some (.slice vo val.length vc) ∧ wx.cell? ⟨T, 3, none⟩ = some (.int .u64 (want : Int)) ∧ wx.cell? ⟨T, 4, none⟩ = some (.int .u64 (sess : Int)) ∧ wx.cell? ⟨T, 5, none⟩ = some (.int .u64 (ticks : Int)))
    (first | exact hS2 | exact hS3)
    (first | (go_at_call 31; (with_reducible refine (Ls.ropen_all cs t q s.last now ticks s.l F _ HQd.out.st.book HW.out.len HW.out.last hn64).mono ?_); rintro e w1 ⟨rfl, hw1⟩; obtain ⟨cs1, L1, hm1⟩ := HQd.out.book hw1; have hS3 := hm1.sees HN.out; unfold SeesR at hS3; have H1 := Lib.hid hm1; clear hw1 hm1))
  go_wp2
  go_ret3
  obtain rfl := HN.out
  rw [HD.out]
  exact DidR.none' (n := (Ls.openL s.last s.l s.now ticks).1.1) rfl H1.out.done
-- ENDopen
-- BEGINdelete
set_option maxHeartbeats 4000000 in
set_option maxRecDepth 100000 in
theorem rdo_delete (s : St) (c : Cm) (vo : Option Addr) (vc : Nat) (q : Nat) (cs : Array Value) (t : TypeId) (G F : List Nat) (w : World) (h : RsAt w q cs t s G F) (hs : s.Wr) (hc : c.Fit) (hv : Bts w vo c.val) (hk : c.kind = 2) :
    Calls Tryz.prog 10 #[.pointer (some ⟨q, 0, none⟩), .agg (c.cells vo vc)] w (DidR w q cs t (doD s c) G F) := by
  have HD := Lib.hid (show doD s c = ({ s with ps := (Tr.delP s.ps c.key c.want).1 }, 0, [], (Tr.delP s.ps c.key c.want).2) by simp [doD, late, hk])
  obtain ⟨kind, key, val, want, sess, ticks⟩ := c
  have HC := Lib.hid hc
  have HV := Lib.hid hv
  dsimp only at hk
  subst hk
  have HR := Lib.hid (MidR.enter h (.cells (Cm.cells ⟨2, key, val, want, sess, ticks⟩ vo vc) 39))
  have HBW := Lib.hid ((Below.refl w.heap.size w).alloc (Nat.le_refl _) (.cells (Cm.cells ⟨2, key, val, want, sess, ticks⟩ vo vc) 39))
  have HVW := Lib.hid (HV.out.below HBW.out)
  have HW := Lib.hid hs
  obtain ⟨now, hnow⟩ : ∃ now, s.now = now := ⟨_, rfl⟩
  have HN := Lib.hid hnow
  have hn40 : now ≤ 1099511627776 := hnow ▸ hs.now
  have hn64 : now < 18446744073709551616 := by omega
  clear h hs hnow hc hv
  dsimp only [Cm.cells] at *
  go_enter Tryz.func10, Tryz.ntmps10
  go_upto_region 1 with fail
  obtain ⟨a0, a1, a2, a3, a4, a5⟩ := cells6 HR.out.box (Below.refl _ _)
  generalize w.alloc (.cells #[.int .u8 ((2 : Nat) : Int), .string key, .slice vo val.length vc, .int .u64 (want : Int), .int .u64 (sess : Int), .int .u64 (ticks : Int)] 39) = wb at *
  generalize hT : w.heap.size = T at *
  go_quiet (fail)
  have HQ := Lib.hid (HR.out.drewN nq)
  have HVQ := Lib.hid (HVW.out.below (below_drewN (Below.refl _ wb) nq))
  obtain ⟨b0, b1, b2, b3, b4, b5⟩ := cells6 HQ.out.box (Below.refl _ _)
  generalize wb.drewN nq = w0 at *
  go_upto_region 8 with fail
  have HQd := Lib.hid HQ.out.drew
  have hS2 := HQd.out.sees HN.out
  unfold SeesR at hS2
  go_region_held3 (fun wx => wx.cell? ⟨q, 0, none⟩ = some (.int .u64 (now : Int)) ∧
      wx.cell? ⟨T, 1, none⟩ = some (.string key) ∧ wx.cell? ⟨T, 2, none⟩ = some (.slice vo val.length vc) ∧ wx.cell? ⟨T, 3, none⟩ = some (.int .u64 (want : Int)) ∧ wx.cell? ⟨T, 4, none⟩ = some (.int .u64 (sess : Int)) ∧ wx.cell? ⟨T, 5, none⟩ = some (.int .u64 (ticks : Int)))
    (first | exact hS2 | exact hS3)
    (first | (go_at_call 30; (with_reducible refine (Tr.rdel_all q cs t s.ps G key want _ HQd.out.st.tree HW.out.many).mono ?_); rintro e w1 ⟨rfl, hw1⟩; obtain ⟨cs1, L1, hm1⟩ := HQd.out.tree hw1; have hS3 := hm1.sees HN.out; unfold SeesR at hS3; have H1 := Lib.hid hm1; clear hw1 hm1))
  go_wp2
  go_ret3
  obtain rfl := HN.out
  rw [HD.out]
  exact DidR.none' (n := 0) rfl H1.out.done
-- ENDdelete
-- BEGINput_zero
set_option maxHeartbeats 4000000 in
set_option maxRecDepth 100000 in
theorem rdo_put_zero (s : St) (c : Cm) (vo : Option Addr) (vc : Nat) (q : Nat) (cs : Array Value) (t : TypeId) (G F : List Nat) (w : World) (h : RsAt w q cs t s G F) (hs : s.Wr) (hc : c.Fit) (hv : Bts w vo c.val) (hk : c.kind = 1) (h0 : c.sess = 0) :
    Calls Tryz.prog 10 #[.pointer (some ⟨q, 0, none⟩), .agg (c.cells vo vc)] w (DidR w q cs t (doD s c) G F) := by
  have HD := Lib.hid (show doD s c = ({ s with ps := (Tr.putR s.ps c.key c.val c.want c.sess).1 }, (Tr.putR s.ps c.key c.val c.want c.sess).2.1, [], (Tr.putR s.ps c.key c.val c.want c.sess).2.2) by simp [doD, late, hk, h0])
  obtain ⟨kind, key, val, want, sess, ticks⟩ := c
  have HC := Lib.hid hc
  have HV := Lib.hid hv
  dsimp only at hk h0
  subst hk
  have HR := Lib.hid (MidR.enter h (.cells (Cm.cells ⟨1, key, val, want, sess, ticks⟩ vo vc) 39))
  have HBW := Lib.hid ((Below.refl w.heap.size w).alloc (Nat.le_refl _) (.cells (Cm.cells ⟨1, key, val, want, sess, ticks⟩ vo vc) 39))
  have HVW := Lib.hid (HV.out.below HBW.out)
  have HW := Lib.hid hs
  obtain ⟨now, hnow⟩ : ∃ now, s.now = now := ⟨_, rfl⟩
  have HN := Lib.hid hnow
  have hn40 : now ≤ 1099511627776 := hnow ▸ hs.now
  have hn64 : now < 18446744073709551616 := by omega
  have i0 : ((sess : Int) != 0) = false := by simp; omega
  clear h0
  clear h hs hnow hc hv
  dsimp only [Cm.cells] at *
  go_enter Tryz.func10, Tryz.ntmps10
  go_upto_region 1 with fail
  obtain ⟨a0, a1, a2, a3, a4, a5⟩ := cells6 HR.out.box (Below.refl _ _)
  generalize w.alloc (.cells #[.int .u8 ((1 : Nat) : Int), .string key, .slice vo val.length vc, .int .u64 (want : Int), .int .u64 (sess : Int), .int .u64 (ticks : Int)] 39) = wb at *
  generalize hT : w.heap.size = T at *
  go_quiet (fail)
  have HQ := Lib.hid (HR.out.drewN nq)
  have HVQ := Lib.hid (HVW.out.below (below_drewN (Below.refl _ wb) nq))
  obtain ⟨b0, b1, b2, b3, b4, b5⟩ := cells6 HQ.out.box (Below.refl _ _)
  generalize wb.drewN nq = w0 at *
  go_upto_region 5 with fail
  have HQd := Lib.hid HQ.out.drew
  have hS2 := HQd.out.sees HN.out
  unfold SeesR at hS2
  go_region_held3 (fun wx => wx.cell? ⟨q, 0, none⟩ = some (.int .u64 (now : Int)) ∧
      wx.cell? ⟨T, 1, none⟩ = some (.string key) ∧ wx.cell? ⟨T, 2, none⟩ = some (.slice vo val.length vc) ∧ wx.cell? ⟨T, 3, none⟩ = some (.int .u64 (want : Int)) ∧ wx.cell? ⟨T, 4, none⟩ = some (.int .u64 (sess : Int)) ∧ wx.cell? ⟨T, 5, none⟩ = some (.int .u64 (ticks : Int)))
    (first | exact hS2 | exact hS3)
    (first | (go_at_call 29; (with_reducible refine (Tr.rput_all q cs t s.ps G key vo val.length vc val want sess _ HQd.out.st.tree HW.out.many HVQ.out.drew rfl HC.out.want).mono ?_); rintro e w1 ⟨rfl, hw1⟩; obtain ⟨cs1, L1, hm1⟩ := HQd.out.tree hw1; have hS3 := hm1.sees HN.out; unfold SeesR at hS3; have H1 := Lib.hid hm1; clear hw1 hm1))
  go_wp2
  go_ret3
  obtain rfl := HN.out
  rw [HD.out]
  exact DidR.none' (n := (Tr.putR s.ps key val want sess).2.1) rfl H1.out.done
-- ENDput_zero
-- BEGINput_live
set_option maxHeartbeats 4000000 in
set_option maxRecDepth 100000 in
theorem rdo_put_live (s : St) (c : Cm) (vo : Option Addr) (vc : Nat) (q : Nat) (cs : Array Value) (t : TypeId) (G F : List Nat) (w : World) (h : RsAt w q cs t s G F) (hs : s.Wr) (hc : c.Fit) (hv : Bts w vo c.val) (hk : c.kind = 1) (h0 : c.sess ≠ 0) (h1 : Ls.liveL s.l c.sess s.now = true) :
    Calls Tryz.prog 10 #[.pointer (some ⟨q, 0, none⟩), .agg (c.cells vo vc)] w (DidR w q cs t (doD s c) G F) := by
  have HD := Lib.hid (show doD s c = ({ s with ps := (Tr.putR s.ps c.key c.val c.want c.sess).1 }, (Tr.putR s.ps c.key c.val c.want c.sess).2.1, [], (Tr.putR s.ps c.key c.val c.want c.sess).2.2) by simp [doD, late, hk, h1])
  obtain ⟨kind, key, val, want, sess, ticks⟩ := c
  have HC := Lib.hid hc
  have HV := Lib.hid hv
  dsimp only at hk h0 h1
  subst hk
  have HR := Lib.hid (MidR.enter h (.cells (Cm.cells ⟨1, key, val, want, sess, ticks⟩ vo vc) 39))
  have HBW := Lib.hid ((Below.refl w.heap.size w).alloc (Nat.le_refl _) (.cells (Cm.cells ⟨1, key, val, want, sess, ticks⟩ vo vc) 39))
  have HVW := Lib.hid (HV.out.below HBW.out)
  have HW := Lib.hid hs
  obtain ⟨now, hnow⟩ : ∃ now, s.now = now := ⟨_, rfl⟩
  have HN := Lib.hid hnow
  have hn40 : now ≤ 1099511627776 := hnow ▸ hs.now
  have hn64 : now < 18446744073709551616 := by omega
  have hl1000 : s.l.length ≤ 1000000 := Nat.le_trans hs.len (by decide)
  have i0 : ((sess : Int) != 0) = true := by simp; omega
  have i1 : ¬ ((sess : Int) = 0) := by omega
  rw [hnow] at h1
  have HLV := Lib.hid h1
  clear h1
  clear h hs hnow hc hv
  dsimp only [Cm.cells] at *
  go_enter Tryz.func10, Tryz.ntmps10
  go_upto_region 1 with fail
  obtain ⟨a0, a1, a2, a3, a4, a5⟩ := cells6 HR.out.box (Below.refl _ _)
  generalize w.alloc (.cells #[.int .u8 ((1 : Nat) : Int), .string key, .slice vo val.length vc, .int .u64 (want : Int), .int .u64 (sess : Int), .int .u64 (ticks : Int)] 39) = wb at *
  generalize hT : w.heap.size = T at *
  have HQ := Lib.hid HR.out.drew
  have HVQ := Lib.hid HVW.out.drew
  have hS0 := And.intro (show wb.drew.cell? ⟨T, 0, none⟩ = some (.int .u8 1) from a0) (HQ.out.sees HN.out)
  unfold SeesR at hS0
  refine wp_region_held_drew (S := (fun wx => wx.cell? ⟨T, 0, none⟩ = some (.int .u8 1) ∧ wx.cell? ⟨q, 0, none⟩ = some (.int .u64 (now : Int)) ∧
      wx.cell? ⟨T, 1, none⟩ = some (.string key) ∧ wx.cell? ⟨T, 2, none⟩ = some (.slice vo val.length vc) ∧ wx.cell? ⟨T, 3, none⟩ = some (.int .u64 (want : Int)) ∧ wx.cell? ⟨T, 4, none⟩ = some (.int .u64 (sess : Int)) ∧ wx.cell? ⟨T, 5, none⟩ = some (.int .u64 (ticks : Int)))) (by kernel_rfl) hS0 (fun hHeld => ?_)
  refine wpAnyH_take (i := 0) (oi := { dst := some 14, op := Op.fieldAddr 39 (Operand.tmp 3) 0, type := 0, pos := "ref.go:259", after := #[], guard := none }) (v := ?v0) rfl (by kernel_rfl) (by kernel_rfl) (by kernel_rfl) (fun _ _ _ h => h) (Or.inl ⟨by rfl, ?hy0⟩) (by assumption) ?rest0
  case hy0 => (intro w hSw; (try dsimp only at hSw); go_simp; all_goals (with_reducible rfl))
  (try simp only [Act.put, List.setIfInBounds_toArray, List.set_cons_zero, List.set_cons_succ])
  refine wpAnyH_take (i := 1) (oi := { dst := some 15, op := Op.load 37 (Operand.tmp 14), type := 37, pos := "ref.go:259", after := #[{ on := 0, ground := Ground.data }], guard := none }) (v := ?v1) rfl (by kernel_rfl) (by kernel_rfl) (by kernel_rfl) (fun _ _ _ h => h) (Or.inl ⟨by rfl, ?hy1⟩) (by assumption) ?rest1
  case hy1 => (intro w hSw; (try dsimp only at hSw); go_simp; all_goals (with_reducible rfl))
  (try simp only [Act.put, List.setIfInBounds_toArray, List.set_cons_zero, List.set_cons_succ])
  refine wpAnyH_take (i := 2) (oi := { dst := some 16, op := Op.binOp BinOp.eql 37 (Operand.tmp 15) (Operand.const (Value.int IntKind.u8 1)) 37, type := 4, pos := "ref.go:259", after := #[{ on := 1, ground := Ground.data }], guard := none }) (v := ?v2) rfl (by kernel_rfl) (by kernel_rfl) (by kernel_rfl) (fun _ _ _ h => h) (Or.inl ⟨by rfl, ?hy2⟩) (by assumption) ?rest2
  case hy2 => (intro w hSw; (try dsimp only at hSw); go_simp; all_goals (with_reducible rfl))
  (try simp only [Act.put, List.setIfInBounds_toArray, List.set_cons_zero, List.set_cons_succ])
  refine wpAnyH_take (i := 3) (oi := { dst := some 17, op := Op.move (Operand.tmp 16), type := 4, pos := "ref.go:259", after := #[{ on := 2, ground := Ground.data }], guard := none }) (v := ?v3) rfl (by kernel_rfl) (by kernel_rfl) (by kernel_rfl) (fun _ _ _ h => h) (Or.inl ⟨by rfl, ?hy3⟩) (by assumption) ?rest3
  case hy3 => (intro w hSw; (try dsimp only at hSw); go_simp; all_goals (with_reducible rfl))
  (try simp only [Act.put, List.setIfInBounds_toArray, List.set_cons_zero, List.set_cons_succ])
  refine wpAnyH_take (i := 4) (oi := { dst := some 18, op := Op.fieldAddr 39 (Operand.tmp 3) 0, type := 0, pos := "ref.go:259", after := #[{ on := 3, ground := Ground.guard }], guard := some (3, false) }) (v := undef) rfl (by kernel_rfl) (by kernel_rfl) (by kernel_rfl) (fun _ _ _ h => h) (Or.inr ⟨by rfl, rfl⟩) (by assumption) ?_
  (try simp only [Act.put, List.setIfInBounds_toArray, List.set_cons_zero, List.set_cons_succ])
  refine wpAnyH_take (i := 5) (oi := { dst := some 19, op := Op.load 37 (Operand.tmp 18), type := 37, pos := "ref.go:259", after := #[{ on := 4, ground := Ground.data }, { on := 3, ground := Ground.guard }], guard := some (3, false) }) (v := undef) rfl (by kernel_rfl) (by kernel_rfl) (by kernel_rfl) (fun _ _ _ h => h) (Or.inr ⟨by rfl, rfl⟩) (by assumption) ?_
  (try simp only [Act.put, List.setIfInBounds_toArray, List.set_cons_zero, List.set_cons_succ])
  refine wpAnyH_take (i := 6) (oi := { dst := some 20, op := Op.binOp BinOp.eql 37 (Operand.tmp 19) (Operand.const (Value.int IntKind.u8 4)) 37, type := 4, pos := "ref.go:259", after := #[{ on := 5, ground := Ground.data }, { on := 3, ground := Ground.guard }], guard := some (3, false) }) (v := undef) rfl (by kernel_rfl) (by kernel_rfl) (by kernel_rfl) (fun _ _ _ h => h) (Or.inr ⟨by rfl, rfl⟩) (by assumption) ?_
  (try simp only [Act.put, List.setIfInBounds_toArray, List.set_cons_zero, List.set_cons_succ])
  refine wpAnyH_take (i := 7) (oi := { dst := some 21, op := Op.pick (Operand.tmp 17) (Operand.const (Value.bool true)) (Operand.tmp 20), type := 4, pos := "ref.go:259", after := #[{ on := 3, ground := Ground.data }, { on := 6, ground := Ground.data }], guard := none }) (v := ?v7) rfl (by kernel_rfl) (by kernel_rfl) (by kernel_rfl) (fun _ _ _ h => h) (Or.inl ⟨by rfl, ?hy7⟩) (by assumption) ?rest7
  case hy7 => (intro w hSw; (try dsimp only at hSw); go_simp; all_goals (with_reducible rfl))
  (try simp only [Act.put, List.setIfInBounds_toArray, List.set_cons_zero, List.set_cons_succ])
  refine wpAnyH_take (i := 8) (oi := { dst := some 22, op := Op.move (Operand.tmp 21), type := 4, pos := "ref.go:259", after := #[{ on := 7, ground := Ground.data }, { on := 3, ground := Ground.chain }], guard := none }) (v := ?v8) rfl (by kernel_rfl) (by kernel_rfl) (by kernel_rfl) (fun _ _ _ h => h) (Or.inl ⟨by rfl, ?hy8⟩) (by assumption) ?rest8
  case hy8 => (intro w hSw; (try dsimp only at hSw); go_simp; all_goals (with_reducible rfl))
  (try simp only [Act.put, List.setIfInBounds_toArray, List.set_cons_zero, List.set_cons_succ])
  refine wpAnyH_take (i := 9) (oi := { dst := some 23, op := Op.fieldAddr 39 (Operand.tmp 3) 4, type := 0, pos := "ref.go:259", after := #[{ on := 8, ground := Ground.guard }], guard := some (8, true) }) (v := ?v9) rfl (by kernel_rfl) (by kernel_rfl) (by kernel_rfl) (fun _ _ _ h => h) (Or.inl ⟨by rfl, ?hy9⟩) (by assumption) ?rest9
  case hy9 => (intro w hSw; (try dsimp only at hSw); go_simp; all_goals (with_reducible rfl))
  (try simp only [Act.put, List.setIfInBounds_toArray, List.set_cons_zero, List.set_cons_succ])
  refine wpAnyH_take (i := 10) (oi := { dst := some 24, op := Op.load 28 (Operand.tmp 23), type := 28, pos := "ref.go:259", after := #[{ on := 9, ground := Ground.data }, { on := 8, ground := Ground.guard }], guard := some (8, true) }) (v := ?v10) rfl (by kernel_rfl) (by kernel_rfl) (by kernel_rfl) (fun _ _ _ h => h) (Or.inl ⟨by rfl, ?hy10⟩) (by assumption) ?rest10
  case hy10 => (intro w hSw; (try dsimp only at hSw); go_simp; all_goals (with_reducible rfl))
  (try simp only [Act.put, List.setIfInBounds_toArray, List.set_cons_zero, List.set_cons_succ])
  refine wpAnyH_take (i := 11) (oi := { dst := some 25, op := Op.binOp BinOp.neq 28 (Operand.tmp 24) (Operand.const (Value.int IntKind.u64 0)) 28, type := 4, pos := "ref.go:259", after := #[{ on := 10, ground := Ground.data }, { on := 8, ground := Ground.guard }], guard := some (8, true) }) (v := ?v11) rfl (by kernel_rfl) (by kernel_rfl) (by kernel_rfl) (fun _ _ _ h => h) (Or.inl ⟨by rfl, ?hy11⟩) (by assumption) ?rest11
  case hy11 => (intro w hSw; (try dsimp only at hSw); go_simp; all_goals (with_reducible rfl))
  (try simp only [Act.put, List.setIfInBounds_toArray, List.set_cons_zero, List.set_cons_succ])
  refine wpAnyH_take (i := 12) (oi := { dst := some 26, op := Op.pick (Operand.tmp 22) (Operand.tmp 25) (Operand.const (Value.bool false)), type := 4, pos := "ref.go:259", after := #[{ on := 8, ground := Ground.data }, { on := 11, ground := Ground.data }], guard := none }) (v := ?v12) rfl (by kernel_rfl) (by kernel_rfl) (by kernel_rfl) (fun _ _ _ h => h) (Or.inl ⟨by rfl, ?hy12⟩) (by assumption) ?rest12
  case hy12 => (intro w hSw; (try dsimp only at hSw); go_simp; all_goals (with_reducible rfl))
  (try simp only [Act.put, List.setIfInBounds_toArray, List.set_cons_zero, List.set_cons_succ])
  refine wpAnyH_take (i := 13) (oi := { dst := some 27, op := Op.move (Operand.tmp 26), type := 4, pos := "ref.go:259", after := #[{ on := 12, ground := Ground.data }, { on := 8, ground := Ground.chain }], guard := none }) (v := ?v13) rfl (by kernel_rfl) (by kernel_rfl) (by kernel_rfl) (fun _ _ _ h => h) (Or.inl ⟨by rfl, ?hy13⟩) (by assumption) ?rest13
  case hy13 => (intro w hSw; (try dsimp only at hSw); go_simp; all_goals (with_reducible rfl))
  (try simp only [Act.put, List.setIfInBounds_toArray, List.set_cons_zero, List.set_cons_succ])
  refine wpAnyH_take (i := 14) (oi := { dst := some 28, op := Op.move (Operand.tmp 0), type := 27, pos := "ref.go:259", after := #[{ on := 13, ground := Ground.guard }], guard := some (13, true) }) (v := ?v14) rfl (by kernel_rfl) (by kernel_rfl) (by kernel_rfl) (fun _ _ _ h => h) (Or.inl ⟨by rfl, ?hy14⟩) (by assumption) ?rest14
  case hy14 => (intro w hSw; (try dsimp only at hSw); go_simp; all_goals (with_reducible rfl))
  (try simp only [Act.put, List.setIfInBounds_toArray, List.set_cons_zero, List.set_cons_succ])
  refine wpAnyH_take (i := 15) (oi := { dst := some 29, op := Op.nilCheck (Operand.tmp 28), type := 0, pos := "ref.go:259", after := #[{ on := 14, ground := Ground.data }, { on := 13, ground := Ground.guard }], guard := some (13, true) }) (v := ?v15) rfl (by kernel_rfl) (by kernel_rfl) (by kernel_rfl) (fun _ _ _ h => h) (Or.inl ⟨by rfl, ?hy15⟩) (by assumption) ?rest15
  case hy15 => (intro w hSw; (try dsimp only at hSw); go_simp; all_goals (with_reducible rfl))
  (try simp only [Act.put, List.setIfInBounds_toArray, List.set_cons_zero, List.set_cons_succ])
  refine wpAnyH_take (i := 16) (oi := { dst := some 30, op := Op.fieldAddr 36 (Operand.tmp 29) 2, type := 0, pos := "ref.go:259", after := #[{ on := 15, ground := Ground.data }, { on := 13, ground := Ground.guard }], guard := some (13, true) }) (v := ?v16) rfl (by kernel_rfl) (by kernel_rfl) (by kernel_rfl) (fun _ _ _ h => h) (Or.inl ⟨by rfl, ?hy16⟩) (by assumption) ?rest16
  case hy16 => (intro w hSw; (try dsimp only at hSw); go_simp; all_goals (with_reducible rfl))
  (try simp only [Act.put, List.setIfInBounds_toArray, List.set_cons_zero, List.set_cons_succ])
  refine wpAnyH_take (i := 17) (oi := { dst := some 31, op := Op.fieldAddr 39 (Operand.tmp 3) 4, type := 0, pos := "ref.go:259", after := #[{ on := 13, ground := Ground.guard }], guard := some (13, true) }) (v := ?v17) rfl (by kernel_rfl) (by kernel_rfl) (by kernel_rfl) (fun _ _ _ h => h) (Or.inl ⟨by rfl, ?hy17⟩) (by assumption) ?rest17
  case hy17 => (intro w hSw; (try dsimp only at hSw); go_simp; all_goals (with_reducible rfl))
  (try simp only [Act.put, List.setIfInBounds_toArray, List.set_cons_zero, List.set_cons_succ])
  refine wpAnyH_take (i := 18) (oi := { dst := some 32, op := Op.load 28 (Operand.tmp 31), type := 28, pos := "ref.go:259", after := #[{ on := 17, ground := Ground.data }, { on := 13, ground := Ground.guard }], guard := some (13, true) }) (v := ?v18) rfl (by kernel_rfl) (by kernel_rfl) (by kernel_rfl) (fun _ _ _ h => h) (Or.inl ⟨by rfl, ?hy18⟩) (by assumption) ?rest18
  case hy18 => (intro w hSw; (try dsimp only at hSw); go_simp; all_goals (with_reducible rfl))
  (try simp only [Act.put, List.setIfInBounds_toArray, List.set_cons_zero, List.set_cons_succ])
  refine wpAnyH_take (i := 19) (oi := { dst := some 33, op := Op.move (Operand.tmp 0), type := 27, pos := "ref.go:259", after := #[{ on := 13, ground := Ground.guard }], guard := some (13, true) }) (v := ?v19) rfl (by kernel_rfl) (by kernel_rfl) (by kernel_rfl) (fun _ _ _ h => h) (Or.inl ⟨by rfl, ?hy19⟩) (by assumption) ?rest19
  case hy19 => (intro w hSw; (try dsimp only at hSw); go_simp; all_goals (with_reducible rfl))
  (try simp only [Act.put, List.setIfInBounds_toArray, List.set_cons_zero, List.set_cons_succ])
  refine wpAnyH_take (i := 20) (oi := { dst := some 34, op := Op.nilCheck (Operand.tmp 33), type := 0, pos := "ref.go:259", after := #[{ on := 19, ground := Ground.data }, { on := 13, ground := Ground.guard }], guard := some (13, true) }) (v := ?v20) rfl (by kernel_rfl) (by kernel_rfl) (by kernel_rfl) (fun _ _ _ h => h) (Or.inl ⟨by rfl, ?hy20⟩) (by assumption) ?rest20
  case hy20 => (intro w hSw; (try dsimp only at hSw); go_simp; all_goals (with_reducible rfl))
  (try simp only [Act.put, List.setIfInBounds_toArray, List.set_cons_zero, List.set_cons_succ])
  refine wpAnyH_take (i := 21) (oi := { dst := some 35, op := Op.fieldAddr 36 (Operand.tmp 34) 0, type := 0, pos := "ref.go:259", after := #[{ on := 20, ground := Ground.data }, { on := 13, ground := Ground.guard }], guard := some (13, true) }) (v := ?v21) rfl (by kernel_rfl) (by kernel_rfl) (by kernel_rfl) (fun _ _ _ h => h) (Or.inl ⟨by rfl, ?hy21⟩) (by assumption) ?rest21
  case hy21 => (intro w hSw; (try dsimp only at hSw); go_simp; all_goals (with_reducible rfl))
  (try simp only [Act.put, List.setIfInBounds_toArray, List.set_cons_zero, List.set_cons_succ])
  refine wpAnyH_take (i := 22) (oi := { dst := some 36, op := Op.load 28 (Operand.tmp 35), type := 28, pos := "ref.go:259", after := #[{ on := 21, ground := Ground.data }, { on := 13, ground := Ground.guard }], guard := some (13, true) }) (v := ?v22) rfl (by kernel_rfl) (by kernel_rfl) (by kernel_rfl) (fun _ _ _ h => h) (Or.inl ⟨by rfl, ?hy22⟩) (by assumption) ?rest22
  case hy22 => (intro w hSw; (try dsimp only at hSw); go_simp; all_goals (with_reducible rfl))
  (try simp only [Act.put, List.setIfInBounds_toArray, List.set_cons_zero, List.set_cons_succ])
  refine wpAnyH_ready (rs := [23]) (by kernel_rfl) (by simp) ?_
  refine AllReadyH.cons (o := { dst := some 37, op := Op.call { callee := Callee.value (Operand.func 28), args := #[Operand.tmp 30, Operand.tmp 32, Operand.tmp 36], argTypes := #[34, 28, 28] }, type := 4, pos := "ref.go:259", after := #[{ on := 16, ground := Ground.data }, { on := 18, ground := Ground.data }, { on := 22, ground := Ground.data }, { on := 13, ground := Ground.chain }, { on := 13, ground := Ground.guard }], guard := some (13, true) }) rfl (fun K hK => ?_) AllReadyH.nil
  go_simp
  go_at_call 28
  (with_reducible refine (Ls.rlive_any cs t q s.last sess now s.l F _ HQ.out.st.book hl1000).mono ?_)
  rintro e w0 ⟨rfl, rfl⟩
  rw [HLV.out]
  go_wp2_with fail
  refine hK.out _ _ hS0 (fun hHeld => ?_)
  clear hK K
  (try simp only [Act.put, List.setIfInBounds_toArray, List.set_cons_zero, List.set_cons_succ])
  refine wpAnyH_take (i := 24) (oi := { dst := some 38, op := Op.unOp UnOp.not 4 (Operand.tmp 37), type := 4, pos := "ref.go:259", after := #[{ on := 23, ground := Ground.data }, { on := 13, ground := Ground.guard }], guard := some (13, true) }) (v := ?v24) rfl (by kernel_rfl) (by kernel_rfl) (by kernel_rfl) (fun _ _ _ h => h) (Or.inl ⟨by rfl, ?hy24⟩) (by assumption) ?rest24
  case hy24 => (intro w hSw; (try dsimp only at hSw); go_simp; all_goals (with_reducible rfl))
  (try simp only [Act.put, List.setIfInBounds_toArray, List.set_cons_zero, List.set_cons_succ])
  refine wpAnyH_take (i := 25) (oi := { dst := some 39, op := Op.pick (Operand.tmp 27) (Operand.tmp 38) (Operand.const (Value.bool false)), type := 4, pos := "ref.go:259", after := #[{ on := 13, ground := Ground.data }, { on := 24, ground := Ground.data }], guard := none }) (v := ?v25) rfl (by kernel_rfl) (by kernel_rfl) (by kernel_rfl) (fun _ _ _ h => h) (Or.inl ⟨by rfl, ?hy25⟩) (by assumption) ?rest25
  case hy25 => (intro w hSw; (try dsimp only at hSw); go_simp; all_goals (with_reducible rfl))
  (try simp only [Act.put, List.setIfInBounds_toArray, List.set_cons_zero, List.set_cons_succ])
  refine wpAnyH_done (by kernel_rfl) ?_ _
  generalize wb.drew = w0 at *
  obtain ⟨b0, b1, b2, b3, b4, b5⟩ := cells6 HQ.out.box (Below.refl _ _)
  go_upto_region 5 with fail
  have HQd := Lib.hid HQ.out.drew
  have hS2 := HQd.out.sees HN.out
  unfold SeesR at hS2
  go_region_held3 (fun wx => wx.cell? ⟨q, 0, none⟩ = some (.int .u64 (now : Int)) ∧
      wx.cell? ⟨T, 1, none⟩ = some (.string key) ∧ wx.cell? ⟨T, 2, none⟩ = some (.slice vo val.length vc) ∧ wx.cell? ⟨T, 3, none⟩ = some (.int .u64 (want : Int)) ∧ wx.cell? ⟨T, 4, none⟩ = some (.int .u64 (sess : Int)) ∧ wx.cell? ⟨T, 5, none⟩ = some (.int .u64 (ticks : Int)))
    (first | exact hS2 | exact hS3)
    (first | (go_at_call 29; (with_reducible refine (Tr.rput_all q cs t s.ps G key vo val.length vc val want sess _ HQd.out.st.tree HW.out.many HVQ.out.drew rfl HC.out.want).mono ?_); rintro e w1 ⟨rfl, hw1⟩; obtain ⟨cs1, L1, hm1⟩ := HQd.out.tree hw1; have hS3 := hm1.sees HN.out; unfold SeesR at hS3; have H1 := Lib.hid hm1; clear hw1 hm1))
  go_wp2
  go_ret3
  obtain rfl := HN.out
  rw [HD.out]
  exact DidR.none' (n := (Tr.putR s.ps key val want sess).2.1) rfl H1.out.done
-- ENDput_live
-- BEGINrenew_zero
set_option maxHeartbeats 4000000 in
set_option maxRecDepth 100000 in
theorem rdo_renew_zero (s : St) (c : Cm) (vo : Option Addr) (vc : Nat) (q : Nat) (cs : Array Value) (t : TypeId) (G F : List Nat) (w : World) (h : RsAt w q cs t s G F) (hs : s.Wr) (hc : c.Fit) (hv : Bts w vo c.val) (hk : c.kind = 4) (h0 : c.sess = 0) :
    Calls Tryz.prog 10 #[.pointer (some ⟨q, 0, none⟩), .agg (c.cells vo vc)] w (DidR w q cs t (doD s c) G F) := by
  have HD := Lib.hid (show doD s c = ({ s with l := (Ls.renewL s.l c.sess s.now).1 }, 0, [], (Ls.renewL s.l c.sess s.now).2) by simp [doD, late, hk, h0])
  obtain ⟨kind, key, val, want, sess, ticks⟩ := c
  have HC := Lib.hid hc
  have HV := Lib.hid hv
  dsimp only at hk h0
  subst hk
  have HR := Lib.hid (MidR.enter h (.cells (Cm.cells ⟨4, key, val, want, sess, ticks⟩ vo vc) 39))
  have HBW := Lib.hid ((Below.refl w.heap.size w).alloc (Nat.le_refl _) (.cells (Cm.cells ⟨4, key, val, want, sess, ticks⟩ vo vc) 39))
  have HVW := Lib.hid (HV.out.below HBW.out)
  have HW := Lib.hid hs
  obtain ⟨now, hnow⟩ : ∃ now, s.now = now := ⟨_, rfl⟩
  have HN := Lib.hid hnow
  have hn40 : now ≤ 1099511627776 := hnow ▸ hs.now
  have hn64 : now < 18446744073709551616 := by omega
  have i0 : ((sess : Int) != 0) = false := by simp; omega
  clear h0
  have hl1000 : s.l.length ≤ 1000000 := Nat.le_trans hs.len (by decide)
  clear h hs hnow hc hv
  dsimp only [Cm.cells] at *
  go_enter Tryz.func10, Tryz.ntmps10
  go_upto_region 1 with fail
  obtain ⟨a0, a1, a2, a3, a4, a5⟩ := cells6 HR.out.box (Below.refl _ _)
  generalize w.alloc (.cells #[.int .u8 ((4 : Nat) : Int), .string key, .slice vo val.length vc, .int .u64 (want : Int), .int .u64 (sess : Int), .int .u64 (ticks : Int)] 39) = wb at *
  generalize hT : w.heap.size = T at *
  go_quiet (fail)
  have HQ := Lib.hid (HR.out.drewN nq)
  have HVQ := Lib.hid (HVW.out.below (below_drewN (Below.refl _ wb) nq))
  obtain ⟨b0, b1, b2, b3, b4, b5⟩ := cells6 HQ.out.box (Below.refl _ _)
  generalize wb.drewN nq = w0 at *
  go_upto_region 13 with fail
  have HQd := Lib.hid HQ.out.drew
  have hS2 := HQd.out.sees HN.out
  unfold SeesR at hS2
  go_region_held3 (fun wx => wx.cell? ⟨q, 0, none⟩ = some (.int .u64 (now : Int)) ∧
      wx.cell? ⟨T, 1, none⟩ = some (.string key) ∧ wx.cell? ⟨T, 2, none⟩ = some (.slice vo val.length vc) ∧ wx.cell? ⟨T, 3, none⟩ = some (.int .u64 (want : Int)) ∧ wx.cell? ⟨T, 4, none⟩ = some (.int .u64 (sess : Int)) ∧ wx.cell? ⟨T, 5, none⟩ = some (.int .u64 (ticks : Int)))
    (first | exact hS2 | exact hS3)
    (first | (go_at_call 32; (with_reducible refine (Ls.rrenew_any cs t q s.last sess now s.l F _ HQd.out.st.book hl1000 hn64 HW.out.life).mono ?_); rintro e w1 ⟨rfl, hw1⟩; obtain ⟨cs1, L1, hm1⟩ := HQd.out.book hw1; have hS3 := hm1.sees HN.out; unfold SeesR at hS3; have H1 := Lib.hid hm1; clear hw1 hm1))
  go_wp2
  go_ret3
  obtain rfl := HN.out
  rw [HD.out]
  exact DidR.none' (n := 0) rfl H1.out.done
-- ENDrenew_zero
-- BEGINrenew_live
set_option maxHeartbeats 4000000 in
set_option maxRecDepth 100000 in
theorem rdo_renew_live (s : St) (c : Cm) (vo : Option Addr) (vc : Nat) (q : Nat) (cs : Array Value) (t : TypeId) (G F : List Nat) (w : World) (h : RsAt w q cs t s G F) (hs : s.Wr) (hc : c.Fit) (hv : Bts w vo c.val) (hk : c.kind = 4) (h0 : c.sess ≠ 0) (h1 : Ls.liveL s.l c.sess s.now = true) :
    Calls Tryz.prog 10 #[.pointer (some ⟨q, 0, none⟩), .agg (c.cells vo vc)] w (DidR w q cs t (doD s c) G F) := by
  have HD := Lib.hid (show doD s c = ({ s with l := (Ls.renewL s.l c.sess s.now).1 }, 0, [], (Ls.renewL s.l c.sess s.now).2) by simp [doD, late, hk, h1])
  obtain ⟨kind, key, val, want, sess, ticks⟩ := c
  have HC := Lib.hid hc
  have HV := Lib.hid hv
  dsimp only at hk h0 h1
  subst hk
  have HR := Lib.hid (MidR.enter h (.cells (Cm.cells ⟨4, key, val, want, sess, ticks⟩ vo vc) 39))
  have HBW := Lib.hid ((Below.refl w.heap.size w).alloc (Nat.le_refl _) (.cells (Cm.cells ⟨4, key, val, want, sess, ticks⟩ vo vc) 39))
  have HVW := Lib.hid (HV.out.below HBW.out)
  have HW := Lib.hid hs
  obtain ⟨now, hnow⟩ : ∃ now, s.now = now := ⟨_, rfl⟩
  have HN := Lib.hid hnow
  have hn40 : now ≤ 1099511627776 := hnow ▸ hs.now
  have hn64 : now < 18446744073709551616 := by omega
  have hl1000 : s.l.length ≤ 1000000 := Nat.le_trans hs.len (by decide)
  have i0 : ((sess : Int) != 0) = true := by simp; omega
  have i1 : ¬ ((sess : Int) = 0) := by omega
  rw [hnow] at h1
  have HLV := Lib.hid h1
  clear h1
  clear h hs hnow hc hv
  dsimp only [Cm.cells] at *
  go_enter Tryz.func10, Tryz.ntmps10
  go_upto_region 1 with fail
  obtain ⟨a0, a1, a2, a3, a4, a5⟩ := cells6 HR.out.box (Below.refl _ _)
  generalize w.alloc (.cells #[.int .u8 ((4 : Nat) : Int), .string key, .slice vo val.length vc, .int .u64 (want : Int), .int .u64 (sess : Int), .int .u64 (ticks : Int)] 39) = wb at *
  generalize hT : w.heap.size = T at *
  have HQ := Lib.hid HR.out.drew
  have HVQ := Lib.hid HVW.out.drew
  have hS0 := And.intro (show wb.drew.cell? ⟨T, 0, none⟩ = some (.int .u8 4) from a0) (HQ.out.sees HN.out)
  unfold SeesR at hS0
  refine wp_region_held_drew (S := (fun wx => wx.cell? ⟨T, 0, none⟩ = some (.int .u8 4) ∧ wx.cell? ⟨q, 0, none⟩ = some (.int .u64 (now : Int)) ∧
      wx.cell? ⟨T, 1, none⟩ = some (.string key) ∧ wx.cell? ⟨T, 2, none⟩ = some (.slice vo val.length vc) ∧ wx.cell? ⟨T, 3, none⟩ = some (.int .u64 (want : Int)) ∧ wx.cell? ⟨T, 4, none⟩ = some (.int .u64 (sess : Int)) ∧ wx.cell? ⟨T, 5, none⟩ = some (.int .u64 (ticks : Int)))) (by kernel_rfl) hS0 (fun hHeld => ?_)
  refine wpAnyH_take (i := 0) (oi := { dst := some 14, op := Op.fieldAddr 39 (Operand.tmp 3) 0, type := 0, pos := "ref.go:259", after := #[], guard := none }) (v := ?v0) rfl (by kernel_rfl) (by kernel_rfl) (by kernel_rfl) (fun _ _ _ h => h) (Or.inl ⟨by rfl, ?hy0⟩) (by assumption) ?rest0
  case hy0 => (intro w hSw; (try dsimp only at hSw); go_simp; all_goals (with_reducible rfl))
  (try simp only [Act.put, List.setIfInBounds_toArray, List.set_cons_zero, List.set_cons_succ])
  refine wpAnyH_take (i := 1) (oi := { dst := some 15, op := Op.load 37 (Operand.tmp 14), type := 37, pos := "ref.go:259", after := #[{ on := 0, ground := Ground.data }], guard := none }) (v := ?v1) rfl (by kernel_rfl) (by kernel_rfl) (by kernel_rfl) (fun _ _ _ h => h) (Or.inl ⟨by rfl, ?hy1⟩) (by assumption) ?rest1
  case hy1 => (intro w hSw; (try dsimp only at hSw); go_simp; all_goals (with_reducible rfl))
  (try simp only [Act.put, List.setIfInBounds_toArray, List.set_cons_zero, List.set_cons_succ])
  refine wpAnyH_take (i := 2) (oi := { dst := some 16, op := Op.binOp BinOp.eql 37 (Operand.tmp 15) (Operand.const (Value.int IntKind.u8 1)) 37, type := 4, pos := "ref.go:259", after := #[{ on := 1, ground := Ground.data }], guard := none }) (v := ?v2) rfl (by kernel_rfl) (by kernel_rfl) (by kernel_rfl) (fun _ _ _ h => h) (Or.inl ⟨by rfl, ?hy2⟩) (by assumption) ?rest2
  case hy2 => (intro w hSw; (try dsimp only at hSw); go_simp; all_goals (with_reducible rfl))
  (try simp only [Act.put, List.setIfInBounds_toArray, List.set_cons_zero, List.set_cons_succ])
  refine wpAnyH_take (i := 3) (oi := { dst := some 17, op := Op.move (Operand.tmp 16), type := 4, pos := "ref.go:259", after := #[{ on := 2, ground := Ground.data }], guard := none }) (v := ?v3) rfl (by kernel_rfl) (by kernel_rfl) (by kernel_rfl) (fun _ _ _ h => h) (Or.inl ⟨by rfl, ?hy3⟩) (by assumption) ?rest3
  case hy3 => (intro w hSw; (try dsimp only at hSw); go_simp; all_goals (with_reducible rfl))
  (try simp only [Act.put, List.setIfInBounds_toArray, List.set_cons_zero, List.set_cons_succ])
  refine wpAnyH_take (i := 4) (oi := { dst := some 18, op := Op.fieldAddr 39 (Operand.tmp 3) 0, type := 0, pos := "ref.go:259", after := #[{ on := 3, ground := Ground.guard }], guard := some (3, false) }) (v := ?v4) rfl (by kernel_rfl) (by kernel_rfl) (by kernel_rfl) (fun _ _ _ h => h) (Or.inl ⟨by rfl, ?hy4⟩) (by assumption) ?rest4
  case hy4 => (intro w hSw; (try dsimp only at hSw); go_simp; all_goals (with_reducible rfl))
  (try simp only [Act.put, List.setIfInBounds_toArray, List.set_cons_zero, List.set_cons_succ])
  refine wpAnyH_take (i := 5) (oi := { dst := some 19, op := Op.load 37 (Operand.tmp 18), type := 37, pos := "ref.go:259", after := #[{ on := 4, ground := Ground.data }, { on := 3, ground := Ground.guard }], guard := some (3, false) }) (v := ?v5) rfl (by kernel_rfl) (by kernel_rfl) (by kernel_rfl) (fun _ _ _ h => h) (Or.inl ⟨by rfl, ?hy5⟩) (by assumption) ?rest5
  case hy5 => (intro w hSw; (try dsimp only at hSw); go_simp; all_goals (with_reducible rfl))
  (try simp only [Act.put, List.setIfInBounds_toArray, List.set_cons_zero, List.set_cons_succ])
  refine wpAnyH_take (i := 6) (oi := { dst := some 20, op := Op.binOp BinOp.eql 37 (Operand.tmp 19) (Operand.const (Value.int IntKind.u8 4)) 37, type := 4, pos := "ref.go:259", after := #[{ on := 5, ground := Ground.data }, { on := 3, ground := Ground.guard }], guard := some (3, false) }) (v := ?v6) rfl (by kernel_rfl) (by kernel_rfl) (by kernel_rfl) (fun _ _ _ h => h) (Or.inl ⟨by rfl, ?hy6⟩) (by assumption) ?rest6
  case hy6 => (intro w hSw; (try dsimp only at hSw); go_simp; all_goals (with_reducible rfl))
  (try simp only [Act.put, List.setIfInBounds_toArray, List.set_cons_zero, List.set_cons_succ])
  refine wpAnyH_take (i := 7) (oi := { dst := some 21, op := Op.pick (Operand.tmp 17) (Operand.const (Value.bool true)) (Operand.tmp 20), type := 4, pos := "ref.go:259", after := #[{ on := 3, ground := Ground.data }, { on := 6, ground := Ground.data }], guard := none }) (v := ?v7) rfl (by kernel_rfl) (by kernel_rfl) (by kernel_rfl) (fun _ _ _ h => h) (Or.inl ⟨by rfl, ?hy7⟩) (by assumption) ?rest7
  case hy7 => (intro w hSw; (try dsimp only at hSw); go_simp; all_goals (with_reducible rfl))
  (try simp only [Act.put, List.setIfInBounds_toArray, List.set_cons_zero, List.set_cons_succ])
  refine wpAnyH_take (i := 8) (oi := { dst := some 22, op := Op.move (Operand.tmp 21), type := 4, pos := "ref.go:259", after := #[{ on := 7, ground := Ground.data }, { on := 3, ground := Ground.chain }], guard := none }) (v := ?v8) rfl (by kernel_rfl) (by kernel_rfl) (by kernel_rfl) (fun _ _ _ h => h) (Or.inl ⟨by rfl, ?hy8⟩) (by assumption) ?rest8
  case hy8 => (intro w hSw; (try dsimp only at hSw); go_simp; all_goals (with_reducible rfl))
  (try simp only [Act.put, List.setIfInBounds_toArray, List.set_cons_zero, List.set_cons_succ])
  refine wpAnyH_take (i := 9) (oi := { dst := some 23, op := Op.fieldAddr 39 (Operand.tmp 3) 4, type := 0, pos := "ref.go:259", after := #[{ on := 8, ground := Ground.guard }], guard := some (8, true) }) (v := ?v9) rfl (by kernel_rfl) (by kernel_rfl) (by kernel_rfl) (fun _ _ _ h => h) (Or.inl ⟨by rfl, ?hy9⟩) (by assumption) ?rest9
  case hy9 => (intro w hSw; (try dsimp only at hSw); go_simp; all_goals (with_reducible rfl))
  (try simp only [Act.put, List.setIfInBounds_toArray, List.set_cons_zero, List.set_cons_succ])
  refine wpAnyH_take (i := 10) (oi := { dst := some 24, op := Op.load 28 (Operand.tmp 23), type := 28, pos := "ref.go:259", after := #[{ on := 9, ground := Ground.data }, { on := 8, ground := Ground.guard }], guard := some (8, true) }) (v := ?v10) rfl (by kernel_rfl) (by kernel_rfl) (by kernel_rfl) (fun _ _ _ h => h) (Or.inl ⟨by rfl, ?hy10⟩) (by assumption) ?rest10
  case hy10 => (intro w hSw; (try dsimp only at hSw); go_simp; all_goals (with_reducible rfl))
  (try simp only [Act.put, List.setIfInBounds_toArray, List.set_cons_zero, List.set_cons_succ])
  refine wpAnyH_take (i := 11) (oi := { dst := some 25, op := Op.binOp BinOp.neq 28 (Operand.tmp 24) (Operand.const (Value.int IntKind.u64 0)) 28, type := 4, pos := "ref.go:259", after := #[{ on := 10, ground := Ground.data }, { on := 8, ground := Ground.guard }], guard := some (8, true) }) (v := ?v11) rfl (by kernel_rfl) (by kernel_rfl) (by kernel_rfl) (fun _ _ _ h => h) (Or.inl ⟨by rfl, ?hy11⟩) (by assumption) ?rest11
  case hy11 => (intro w hSw; (try dsimp only at hSw); go_simp; all_goals (with_reducible rfl))
  (try simp only [Act.put, List.setIfInBounds_toArray, List.set_cons_zero, List.set_cons_succ])
  refine wpAnyH_take (i := 12) (oi := { dst := some 26, op := Op.pick (Operand.tmp 22) (Operand.tmp 25) (Operand.const (Value.bool false)), type := 4, pos := "ref.go:259", after := #[{ on := 8, ground := Ground.data }, { on := 11, ground := Ground.data }], guard := none }) (v := ?v12) rfl (by kernel_rfl) (by kernel_rfl) (by kernel_rfl) (fun _ _ _ h => h) (Or.inl ⟨by rfl, ?hy12⟩) (by assumption) ?rest12
  case hy12 => (intro w hSw; (try dsimp only at hSw); go_simp; all_goals (with_reducible rfl))
  (try simp only [Act.put, List.setIfInBounds_toArray, List.set_cons_zero, List.set_cons_succ])
  refine wpAnyH_take (i := 13) (oi := { dst := some 27, op := Op.move (Operand.tmp 26), type := 4, pos := "ref.go:259", after := #[{ on := 12, ground := Ground.data }, { on := 8, ground := Ground.chain }], guard := none }) (v := ?v13) rfl (by kernel_rfl) (by kernel_rfl) (by kernel_rfl) (fun _ _ _ h => h) (Or.inl ⟨by rfl, ?hy13⟩) (by assumption) ?rest13
  case hy13 => (intro w hSw; (try dsimp only at hSw); go_simp; all_goals (with_reducible rfl))
  (try simp only [Act.put, List.setIfInBounds_toArray, List.set_cons_zero, List.set_cons_succ])
  refine wpAnyH_take (i := 14) (oi := { dst := some 28, op := Op.move (Operand.tmp 0), type := 27, pos := "ref.go:259", after := #[{ on := 13, ground := Ground.guard }], guard := some (13, true) }) (v := ?v14) rfl (by kernel_rfl) (by kernel_rfl) (by kernel_rfl) (fun _ _ _ h => h) (Or.inl ⟨by rfl, ?hy14⟩) (by assumption) ?rest14
  case hy14 => (intro w hSw; (try dsimp only at hSw); go_simp; all_goals (with_reducible rfl))
  (try simp only [Act.put, List.setIfInBounds_toArray, List.set_cons_zero, List.set_cons_succ])
  refine wpAnyH_take (i := 15) (oi := { dst := some 29, op := Op.nilCheck (Operand.tmp 28), type := 0, pos := "ref.go:259", after := #[{ on := 14, ground := Ground.data }, { on := 13, ground := Ground.guard }], guard := some (13, true) }) (v := ?v15) rfl (by kernel_rfl) (by kernel_rfl) (by kernel_rfl) (fun _ _ _ h => h) (Or.inl ⟨by rfl, ?hy15⟩) (by assumption) ?rest15
  case hy15 => (intro w hSw; (try dsimp only at hSw); go_simp; all_goals (with_reducible rfl))
  (try simp only [Act.put, List.setIfInBounds_toArray, List.set_cons_zero, List.set_cons_succ])
  refine wpAnyH_take (i := 16) (oi := { dst := some 30, op := Op.fieldAddr 36 (Operand.tmp 29) 2, type := 0, pos := "ref.go:259", after := #[{ on := 15, ground := Ground.data }, { on := 13, ground := Ground.guard }], guard := some (13, true) }) (v := ?v16) rfl (by kernel_rfl) (by kernel_rfl) (by kernel_rfl) (fun _ _ _ h => h) (Or.inl ⟨by rfl, ?hy16⟩) (by assumption) ?rest16
  case hy16 => (intro w hSw; (try dsimp only at hSw); go_simp; all_goals (with_reducible rfl))
  (try simp only [Act.put, List.setIfInBounds_toArray, List.set_cons_zero, List.set_cons_succ])
  refine wpAnyH_take (i := 17) (oi := { dst := some 31, op := Op.fieldAddr 39 (Operand.tmp 3) 4, type := 0, pos := "ref.go:259", after := #[{ on := 13, ground := Ground.guard }], guard := some (13, true) }) (v := ?v17) rfl (by kernel_rfl) (by kernel_rfl) (by kernel_rfl) (fun _ _ _ h => h) (Or.inl ⟨by rfl, ?hy17⟩) (by assumption) ?rest17
  case hy17 => (intro w hSw; (try dsimp only at hSw); go_simp; all_goals (with_reducible rfl))
  (try simp only [Act.put, List.setIfInBounds_toArray, List.set_cons_zero, List.set_cons_succ])
  refine wpAnyH_take (i := 18) (oi := { dst := some 32, op := Op.load 28 (Operand.tmp 31), type := 28, pos := "ref.go:259", after := #[{ on := 17, ground := Ground.data }, { on := 13, ground := Ground.guard }], guard := some (13, true) }) (v := ?v18) rfl (by kernel_rfl) (by kernel_rfl) (by kernel_rfl) (fun _ _ _ h => h) (Or.inl ⟨by rfl, ?hy18⟩) (by assumption) ?rest18
  case hy18 => (intro w hSw; (try dsimp only at hSw); go_simp; all_goals (with_reducible rfl))
  (try simp only [Act.put, List.setIfInBounds_toArray, List.set_cons_zero, List.set_cons_succ])
  refine wpAnyH_take (i := 19) (oi := { dst := some 33, op := Op.move (Operand.tmp 0), type := 27, pos := "ref.go:259", after := #[{ on := 13, ground := Ground.guard }], guard := some (13, true) }) (v := ?v19) rfl (by kernel_rfl) (by kernel_rfl) (by kernel_rfl) (fun _ _ _ h => h) (Or.inl ⟨by rfl, ?hy19⟩) (by assumption) ?rest19
  case hy19 => (intro w hSw; (try dsimp only at hSw); go_simp; all_goals (with_reducible rfl))
  (try simp only [Act.put, List.setIfInBounds_toArray, List.set_cons_zero, List.set_cons_succ])
  refine wpAnyH_take (i := 20) (oi := { dst := some 34, op := Op.nilCheck (Operand.tmp 33), type := 0, pos := "ref.go:259", after := #[{ on := 19, ground := Ground.data }, { on := 13, ground := Ground.guard }], guard := some (13, true) }) (v := ?v20) rfl (by kernel_rfl) (by kernel_rfl) (by kernel_rfl) (fun _ _ _ h => h) (Or.inl ⟨by rfl, ?hy20⟩) (by assumption) ?rest20
  case hy20 => (intro w hSw; (try dsimp only at hSw); go_simp; all_goals (with_reducible rfl))
  (try simp only [Act.put, List.setIfInBounds_toArray, List.set_cons_zero, List.set_cons_succ])
  refine wpAnyH_take (i := 21) (oi := { dst := some 35, op := Op.fieldAddr 36 (Operand.tmp 34) 0, type := 0, pos := "ref.go:259", after := #[{ on := 20, ground := Ground.data }, { on := 13, ground := Ground.guard }], guard := some (13, true) }) (v := ?v21) rfl (by kernel_rfl) (by kernel_rfl) (by kernel_rfl) (fun _ _ _ h => h) (Or.inl ⟨by rfl, ?hy21⟩) (by assumption) ?rest21
  case hy21 => (intro w hSw; (try dsimp only at hSw); go_simp; all_goals (with_reducible rfl))
  (try simp only [Act.put, List.setIfInBounds_toArray, List.set_cons_zero, List.set_cons_succ])
  refine wpAnyH_take (i := 22) (oi := { dst := some 36, op := Op.load 28 (Operand.tmp 35), type := 28, pos := "ref.go:259", after := #[{ on := 21, ground := Ground.data }, { on := 13, ground := Ground.guard }], guard := some (13, true) }) (v := ?v22) rfl (by kernel_rfl) (by kernel_rfl) (by kernel_rfl) (fun _ _ _ h => h) (Or.inl ⟨by rfl, ?hy22⟩) (by assumption) ?rest22
  case hy22 => (intro w hSw; (try dsimp only at hSw); go_simp; all_goals (with_reducible rfl))
  (try simp only [Act.put, List.setIfInBounds_toArray, List.set_cons_zero, List.set_cons_succ])
  refine wpAnyH_ready (rs := [23]) (by kernel_rfl) (by simp) ?_
  refine AllReadyH.cons (o := { dst := some 37, op := Op.call { callee := Callee.value (Operand.func 28), args := #[Operand.tmp 30, Operand.tmp 32, Operand.tmp 36], argTypes := #[34, 28, 28] }, type := 4, pos := "ref.go:259", after := #[{ on := 16, ground := Ground.data }, { on := 18, ground := Ground.data }, { on := 22, ground := Ground.data }, { on := 13, ground := Ground.chain }, { on := 13, ground := Ground.guard }], guard := some (13, true) }) rfl (fun K hK => ?_) AllReadyH.nil
  go_simp
  go_at_call 28
  (with_reducible refine (Ls.rlive_any cs t q s.last sess now s.l F _ HQ.out.st.book hl1000).mono ?_)
  rintro e w0 ⟨rfl, rfl⟩
  rw [HLV.out]
  go_wp2_with fail
  refine hK.out _ _ hS0 (fun hHeld => ?_)
  clear hK K
  (try simp only [Act.put, List.setIfInBounds_toArray, List.set_cons_zero, List.set_cons_succ])
  refine wpAnyH_take (i := 24) (oi := { dst := some 38, op := Op.unOp UnOp.not 4 (Operand.tmp 37), type := 4, pos := "ref.go:259", after := #[{ on := 23, ground := Ground.data }, { on := 13, ground := Ground.guard }], guard := some (13, true) }) (v := ?v24) rfl (by kernel_rfl) (by kernel_rfl) (by kernel_rfl) (fun _ _ _ h => h) (Or.inl ⟨by rfl, ?hy24⟩) (by assumption) ?rest24
  case hy24 => (intro w hSw; (try dsimp only at hSw); go_simp; all_goals (with_reducible rfl))
  (try simp only [Act.put, List.setIfInBounds_toArray, List.set_cons_zero, List.set_cons_succ])
  refine wpAnyH_take (i := 25) (oi := { dst := some 39, op := Op.pick (Operand.tmp 27) (Operand.tmp 38) (Operand.const (Value.bool false)), type := 4, pos := "ref.go:259", after := #[{ on := 13, ground := Ground.data }, { on := 24, ground := Ground.data }], guard := none }) (v := ?v25) rfl (by kernel_rfl) (by kernel_rfl) (by kernel_rfl) (fun _ _ _ h => h) (Or.inl ⟨by rfl, ?hy25⟩) (by assumption) ?rest25
  case hy25 => (intro w hSw; (try dsimp only at hSw); go_simp; all_goals (with_reducible rfl))
  (try simp only [Act.put, List.setIfInBounds_toArray, List.set_cons_zero, List.set_cons_succ])
  refine wpAnyH_done (by kernel_rfl) ?_ _
  generalize wb.drew = w0 at *
  obtain ⟨b0, b1, b2, b3, b4, b5⟩ := cells6 HQ.out.box (Below.refl _ _)
  go_upto_region 13 with fail
  have HQd := Lib.hid HQ.out.drew
  have hS2 := HQd.out.sees HN.out
  unfold SeesR at hS2
  go_region_held3 (fun wx => wx.cell? ⟨q, 0, none⟩ = some (.int .u64 (now : Int)) ∧
      wx.cell? ⟨T, 1, none⟩ = some (.string key) ∧ wx.cell? ⟨T, 2, none⟩ = some (.slice vo val.length vc) ∧ wx.cell? ⟨T, 3, none⟩ = some (.int .u64 (want : Int)) ∧ wx.cell? ⟨T, 4, none⟩ = some (.int .u64 (sess : Int)) ∧ wx.cell? ⟨T, 5, none⟩ = some (.int .u64 (ticks : Int)))
    (first | exact hS2 | exact hS3)
    (first | (go_at_call 32; (with_reducible refine (Ls.rrenew_any cs t q s.last sess now s.l F _ HQd.out.st.book hl1000 hn64 HW.out.life).mono ?_); rintro e w1 ⟨rfl, hw1⟩; obtain ⟨cs1, L1, hm1⟩ := HQd.out.book hw1; have hS3 := hm1.sees HN.out; unfold SeesR at hS3; have H1 := Lib.hid hm1; clear hw1 hm1))
  go_wp2
  go_ret3
  obtain rfl := HN.out
  rw [HD.out]
  exact DidR.none' (n := 0) rfl H1.out.done
-- ENDrenew_live
-- BEGINput_late
set_option maxHeartbeats 4000000 in
set_option maxRecDepth 100000 in
theorem rdo_put_late (s : St) (c : Cm) (vo : Option Addr) (vc : Nat) (q : Nat) (cs : Array Value) (t : TypeId) (G F : List Nat) (w : World) (h : RsAt w q cs t s G F) (hs : s.Wr) (hc : c.Fit) (hv : Bts w vo c.val) (hk : c.kind = 1) (h0 : c.sess ≠ 0) (h1 : Ls.liveL s.l c.sess s.now = false) :
    Calls Tryz.prog 10 #[.pointer (some ⟨q, 0, none⟩), .agg (c.cells vo vc)] w (DidR w q cs t (doD s c) G F) := by
  have HD := Lib.hid (show doD s c = (s, 0, [], 15) by simp [doD, late, hk, h0, h1])
  obtain ⟨kind, key, val, want, sess, ticks⟩ := c
  have HC := Lib.hid hc
  have HV := Lib.hid hv
  dsimp only at hk h0 h1
  subst hk
  have HR := Lib.hid (MidR.enter h (.cells (Cm.cells ⟨1, key, val, want, sess, ticks⟩ vo vc) 39))
  have HBW := Lib.hid ((Below.refl w.heap.size w).alloc (Nat.le_refl _) (.cells (Cm.cells ⟨1, key, val, want, sess, ticks⟩ vo vc) 39))
  have HVW := Lib.hid (HV.out.below HBW.out)
  have HW := Lib.hid hs
  obtain ⟨now, hnow⟩ : ∃ now, s.now = now := ⟨_, rfl⟩
  have HN := Lib.hid hnow
  have hn40 : now ≤ 1099511627776 := hnow ▸ hs.now
  have hn64 : now < 18446744073709551616 := by omega
  have hl1000 : s.l.length ≤ 1000000 := Nat.le_trans hs.len (by decide)
  have i0 : ((sess : Int) != 0) = true := by simp; omega
  have i1 : ¬ ((sess : Int) = 0) := by omega
  rw [hnow] at h1
  have HLV := Lib.hid h1
  clear h1
  clear h hs hnow hc hv
  dsimp only [Cm.cells] at *
  go_enter Tryz.func10, Tryz.ntmps10
  go_upto_region 1 with fail
  obtain ⟨a0, a1, a2, a3, a4, a5⟩ := cells6 HR.out.box (Below.refl _ _)
  generalize w.alloc (.cells #[.int .u8 ((1 : Nat) : Int), .string key, .slice vo val.length vc, .int .u64 (want : Int), .int .u64 (sess : Int), .int .u64 (ticks : Int)] 39) = wb at *
  generalize hT : w.heap.size = T at *
  have HQ := Lib.hid HR.out.drew
  have HVQ := Lib.hid HVW.out.drew
  have hS0 := And.intro (show wb.drew.cell? ⟨T, 0, none⟩ = some (.int .u8 1) from a0) (HQ.out.sees HN.out)
  unfold SeesR at hS0
  refine wp_region_held_drew (S := (fun wx => wx.cell? ⟨T, 0, none⟩ = some (.int .u8 1) ∧ wx.cell? ⟨q, 0, none⟩ = some (.int .u64 (now : Int)) ∧
      wx.cell? ⟨T, 1, none⟩ = some (.string key) ∧ wx.cell? ⟨T, 2, none⟩ = some (.slice vo val.length vc) ∧ wx.cell? ⟨T, 3, none⟩ = some (.int .u64 (want : Int)) ∧ wx.cell? ⟨T, 4, none⟩ = some (.int .u64 (sess : Int)) ∧ wx.cell? ⟨T, 5, none⟩ = some (.int .u64 (ticks : Int)))) (by kernel_rfl) hS0 (fun hHeld => ?_)
  refine wpAnyH_take (i := 0) (oi := { dst := some 14, op := Op.fieldAddr 39 (Operand.tmp 3) 0, type := 0, pos := "ref.go:259", after := #[], guard := none }) (v := ?v0) rfl (by kernel_rfl) (by kernel_rfl) (by kernel_rfl) (fun _ _ _ h => h) (Or.inl ⟨by rfl, ?hy0⟩) (by assumption) ?rest0
  case hy0 => (intro w hSw; (try dsimp only at hSw); go_simp; all_goals (with_reducible rfl))
  (try simp only [Act.put, List.setIfInBounds_toArray, List.set_cons_zero, List.set_cons_succ])
  refine wpAnyH_take (i := 1) (oi := { dst := some 15, op := Op.load 37 (Operand.tmp 14), type := 37, pos := "ref.go:259", after := #[{ on := 0, ground := Ground.data }], guard := none }) (v := ?v1) rfl (by kernel_rfl) (by kernel_rfl) (by kernel_rfl) (fun _ _ _ h => h) (Or.inl ⟨by rfl, ?hy1⟩) (by assumption) ?rest1
  case hy1 => (intro w hSw; (try dsimp only at hSw); go_simp; all_goals (with_reducible rfl))
  (try simp only [Act.put, List.setIfInBounds_toArray, List.set_cons_zero, List.set_cons_succ])
  refine wpAnyH_take (i := 2) (oi := { dst := some 16, op := Op.binOp BinOp.eql 37 (Operand.tmp 15) (Operand.const (Value.int IntKind.u8 1)) 37, type := 4, pos := "ref.go:259", after := #[{ on := 1, ground := Ground.data }], guard := none }) (v := ?v2) rfl (by kernel_rfl) (by kernel_rfl) (by kernel_rfl) (fun _ _ _ h => h) (Or.inl ⟨by rfl, ?hy2⟩) (by assumption) ?rest2
  case hy2 => (intro w hSw; (try dsimp only at hSw); go_simp; all_goals (with_reducible rfl))
  (try simp only [Act.put, List.setIfInBounds_toArray, List.set_cons_zero, List.set_cons_succ])
  refine wpAnyH_take (i := 3) (oi := { dst := some 17, op := Op.move (Operand.tmp 16), type := 4, pos := "ref.go:259", after := #[{ on := 2, ground := Ground.data }], guard := none }) (v := ?v3) rfl (by kernel_rfl) (by kernel_rfl) (by kernel_rfl) (fun _ _ _ h => h) (Or.inl ⟨by rfl, ?hy3⟩) (by assumption) ?rest3
  case hy3 => (intro w hSw; (try dsimp only at hSw); go_simp; all_goals (with_reducible rfl))
  (try simp only [Act.put, List.setIfInBounds_toArray, List.set_cons_zero, List.set_cons_succ])
  refine wpAnyH_take (i := 4) (oi := { dst := some 18, op := Op.fieldAddr 39 (Operand.tmp 3) 0, type := 0, pos := "ref.go:259", after := #[{ on := 3, ground := Ground.guard }], guard := some (3, false) }) (v := undef) rfl (by kernel_rfl) (by kernel_rfl) (by kernel_rfl) (fun _ _ _ h => h) (Or.inr ⟨by rfl, rfl⟩) (by assumption) ?_
  (try simp only [Act.put, List.setIfInBounds_toArray, List.set_cons_zero, List.set_cons_succ])
  refine wpAnyH_take (i := 5) (oi := { dst := some 19, op := Op.load 37 (Operand.tmp 18), type := 37, pos := "ref.go:259", after := #[{ on := 4, ground := Ground.data }, { on := 3, ground := Ground.guard }], guard := some (3, false) }) (v := undef) rfl (by kernel_rfl) (by kernel_rfl) (by kernel_rfl) (fun _ _ _ h => h) (Or.inr ⟨by rfl, rfl⟩) (by assumption) ?_
  (try simp only [Act.put, List.setIfInBounds_toArray, List.set_cons_zero, List.set_cons_succ])
  refine wpAnyH_take (i := 6) (oi := { dst := some 20, op := Op.binOp BinOp.eql 37 (Operand.tmp 19) (Operand.const (Value.int IntKind.u8 4)) 37, type := 4, pos := "ref.go:259", after := #[{ on := 5, ground := Ground.data }, { on := 3, ground := Ground.guard }], guard := some (3, false) }) (v := undef) rfl (by kernel_rfl) (by kernel_rfl) (by kernel_rfl) (fun _ _ _ h => h) (Or.inr ⟨by rfl, rfl⟩) (by assumption) ?_
  (try simp only [Act.put, List.setIfInBounds_toArray, List.set_cons_zero, List.set_cons_succ])
  refine wpAnyH_take (i := 7) (oi := { dst := some 21, op := Op.pick (Operand.tmp 17) (Operand.const (Value.bool true)) (Operand.tmp 20), type := 4, pos := "ref.go:259", after := #[{ on := 3, ground := Ground.data }, { on := 6, ground := Ground.data }], guard := none }) (v := ?v7) rfl (by kernel_rfl) (by kernel_rfl) (by kernel_rfl) (fun _ _ _ h => h) (Or.inl ⟨by rfl, ?hy7⟩) (by assumption) ?rest7
  case hy7 => (intro w hSw; (try dsimp only at hSw); go_simp; all_goals (with_reducible rfl))
  (try simp only [Act.put, List.setIfInBounds_toArray, List.set_cons_zero, List.set_cons_succ])
  refine wpAnyH_take (i := 8) (oi := { dst := some 22, op := Op.move (Operand.tmp 21), type := 4, pos := "ref.go:259", after := #[{ on := 7, ground := Ground.data }, { on := 3, ground := Ground.chain }], guard := none }) (v := ?v8) rfl (by kernel_rfl) (by kernel_rfl) (by kernel_rfl) (fun _ _ _ h => h) (Or.inl ⟨by rfl, ?hy8⟩) (by assumption) ?rest8
  case hy8 => (intro w hSw; (try dsimp only at hSw); go_simp; all_goals (with_reducible rfl))
  (try simp only [Act.put, List.setIfInBounds_toArray, List.set_cons_zero, List.set_cons_succ])
  refine wpAnyH_take (i := 9) (oi := { dst := some 23, op := Op.fieldAddr 39 (Operand.tmp 3) 4, type := 0, pos := "ref.go:259", after := #[{ on := 8, ground := Ground.guard }], guard := some (8, true) }) (v := ?v9) rfl (by kernel_rfl) (by kernel_rfl) (by kernel_rfl) (fun _ _ _ h => h) (Or.inl ⟨by rfl, ?hy9⟩) (by assumption) ?rest9
  case hy9 => (intro w hSw; (try dsimp only at hSw); go_simp; all_goals (with_reducible rfl))
  (try simp only [Act.put, List.setIfInBounds_toArray, List.set_cons_zero, List.set_cons_succ])
  refine wpAnyH_take (i := 10) (oi := { dst := some 24, op := Op.load 28 (Operand.tmp 23), type := 28, pos := "ref.go:259", after := #[{ on := 9, ground := Ground.data }, { on := 8, ground := Ground.guard }], guard := some (8, true) }) (v := ?v10) rfl (by kernel_rfl) (by kernel_rfl) (by kernel_rfl) (fun _ _ _ h => h) (Or.inl ⟨by rfl, ?hy10⟩) (by assumption) ?rest10
  case hy10 => (intro w hSw; (try dsimp only at hSw); go_simp; all_goals (with_reducible rfl))
  (try simp only [Act.put, List.setIfInBounds_toArray, List.set_cons_zero, List.set_cons_succ])
  refine wpAnyH_take (i := 11) (oi := { dst := some 25, op := Op.binOp BinOp.neq 28 (Operand.tmp 24) (Operand.const (Value.int IntKind.u64 0)) 28, type := 4, pos := "ref.go:259", after := #[{ on := 10, ground := Ground.data }, { on := 8, ground := Ground.guard }], guard := some (8, true) }) (v := ?v11) rfl (by kernel_rfl) (by kernel_rfl) (by kernel_rfl) (fun _ _ _ h => h) (Or.inl ⟨by rfl, ?hy11⟩) (by assumption) ?rest11
  case hy11 => (intro w hSw; (try dsimp only at hSw); go_simp; all_goals (with_reducible rfl))
  (try simp only [Act.put, List.setIfInBounds_toArray, List.set_cons_zero, List.set_cons_succ])
  refine wpAnyH_take (i := 12) (oi := { dst := some 26, op := Op.pick (Operand.tmp 22) (Operand.tmp 25) (Operand.const (Value.bool false)), type := 4, pos := "ref.go:259", after := #[{ on := 8, ground := Ground.data }, { on := 11, ground := Ground.data }], guard := none }) (v := ?v12) rfl (by kernel_rfl) (by kernel_rfl) (by kernel_rfl) (fun _ _ _ h => h) (Or.inl ⟨by rfl, ?hy12⟩) (by assumption) ?rest12
  case hy12 => (intro w hSw; (try dsimp only at hSw); go_simp; all_goals (with_reducible rfl))
  (try simp only [Act.put, List.setIfInBounds_toArray, List.set_cons_zero, List.set_cons_succ])
  refine wpAnyH_take (i := 13) (oi := { dst := some 27, op := Op.move (Operand.tmp 26), type := 4, pos := "ref.go:259", after := #[{ on := 12, ground := Ground.data }, { on := 8, ground := Ground.chain }], guard := none }) (v := ?v13) rfl (by kernel_rfl) (by kernel_rfl) (by kernel_rfl) (fun _ _ _ h => h) (Or.inl ⟨by rfl, ?hy13⟩) (by assumption) ?rest13
  case hy13 => (intro w hSw; (try dsimp only at hSw); go_simp; all_goals (with_reducible rfl))
  (try simp only [Act.put, List.setIfInBounds_toArray, List.set_cons_zero, List.set_cons_succ])
  refine wpAnyH_take (i := 14) (oi := { dst := some 28, op := Op.move (Operand.tmp 0), type := 27, pos := "ref.go:259", after := #[{ on := 13, ground := Ground.guard }], guard := some (13, true) }) (v := ?v14) rfl (by kernel_rfl) (by kernel_rfl) (by kernel_rfl) (fun _ _ _ h => h) (Or.inl ⟨by rfl, ?hy14⟩) (by assumption) ?rest14
  case hy14 => (intro w hSw; (try dsimp only at hSw); go_simp; all_goals (with_reducible rfl))
  (try simp only [Act.put, List.setIfInBounds_toArray, List.set_cons_zero, List.set_cons_succ])
  refine wpAnyH_take (i := 15) (oi := { dst := some 29, op := Op.nilCheck (Operand.tmp 28), type := 0, pos := "ref.go:259", after := #[{ on := 14, ground := Ground.data }, { on := 13, ground := Ground.guard }], guard := some (13, true) }) (v := ?v15) rfl (by kernel_rfl) (by kernel_rfl) (by kernel_rfl) (fun _ _ _ h => h) (Or.inl ⟨by rfl, ?hy15⟩) (by assumption) ?rest15
  case hy15 => (intro w hSw; (try dsimp only at hSw); go_simp; all_goals (with_reducible rfl))
  (try simp only [Act.put, List.setIfInBounds_toArray, List.set_cons_zero, List.set_cons_succ])
  refine wpAnyH_take (i := 16) (oi := { dst := some 30, op := Op.fieldAddr 36 (Operand.tmp 29) 2, type := 0, pos := "ref.go:259", after := #[{ on := 15, ground := Ground.data }, { on := 13, ground := Ground.guard }], guard := some (13, true) }) (v := ?v16) rfl (by kernel_rfl) (by kernel_rfl) (by kernel_rfl) (fun _ _ _ h => h) (Or.inl ⟨by rfl, ?hy16⟩) (by assumption) ?rest16
  case hy16 => (intro w hSw; (try dsimp only at hSw); go_simp; all_goals (with_reducible rfl))
  (try simp only [Act.put, List.setIfInBounds_toArray, List.set_cons_zero, List.set_cons_succ])
  refine wpAnyH_take (i := 17) (oi := { dst := some 31, op := Op.fieldAddr 39 (Operand.tmp 3) 4, type := 0, pos := "ref.go:259", after := #[{ on := 13, ground := Ground.guard }], guard := some (13, true) }) (v := ?v17) rfl (by kernel_rfl) (by kernel_rfl) (by kernel_rfl) (fun _ _ _ h => h) (Or.inl ⟨by rfl, ?hy17⟩) (by assumption) ?rest17
  case hy17 => (intro w hSw; (try dsimp only at hSw); go_simp; all_goals (with_reducible rfl))
  (try simp only [Act.put, List.setIfInBounds_toArray, List.set_cons_zero, List.set_cons_succ])
  refine wpAnyH_take (i := 18) (oi := { dst := some 32, op := Op.load 28 (Operand.tmp 31), type := 28, pos := "ref.go:259", after := #[{ on := 17, ground := Ground.data }, { on := 13, ground := Ground.guard }], guard := some (13, true) }) (v := ?v18) rfl (by kernel_rfl) (by kernel_rfl) (by kernel_rfl) (fun _ _ _ h => h) (Or.inl ⟨by rfl, ?hy18⟩) (by assumption) ?rest18
  case hy18 => (intro w hSw; (try dsimp only at hSw); go_simp; all_goals (with_reducible rfl))
  (try simp only [Act.put, List.setIfInBounds_toArray, List.set_cons_zero, List.set_cons_succ])
  refine wpAnyH_take (i := 19) (oi := { dst := some 33, op := Op.move (Operand.tmp 0), type := 27, pos := "ref.go:259", after := #[{ on := 13, ground := Ground.guard }], guard := some (13, true) }) (v := ?v19) rfl (by kernel_rfl) (by kernel_rfl) (by kernel_rfl) (fun _ _ _ h => h) (Or.inl ⟨by rfl, ?hy19⟩) (by assumption) ?rest19
  case hy19 => (intro w hSw; (try dsimp only at hSw); go_simp; all_goals (with_reducible rfl))
  (try simp only [Act.put, List.setIfInBounds_toArray, List.set_cons_zero, List.set_cons_succ])
  refine wpAnyH_take (i := 20) (oi := { dst := some 34, op := Op.nilCheck (Operand.tmp 33), type := 0, pos := "ref.go:259", after := #[{ on := 19, ground := Ground.data }, { on := 13, ground := Ground.guard }], guard := some (13, true) }) (v := ?v20) rfl (by kernel_rfl) (by kernel_rfl) (by kernel_rfl) (fun _ _ _ h => h) (Or.inl ⟨by rfl, ?hy20⟩) (by assumption) ?rest20
  case hy20 => (intro w hSw; (try dsimp only at hSw); go_simp; all_goals (with_reducible rfl))
  (try simp only [Act.put, List.setIfInBounds_toArray, List.set_cons_zero, List.set_cons_succ])
  refine wpAnyH_take (i := 21) (oi := { dst := some 35, op := Op.fieldAddr 36 (Operand.tmp 34) 0, type := 0, pos := "ref.go:259", after := #[{ on := 20, ground := Ground.data }, { on := 13, ground := Ground.guard }], guard := some (13, true) }) (v := ?v21) rfl (by kernel_rfl) (by kernel_rfl) (by kernel_rfl) (fun _ _ _ h => h) (Or.inl ⟨by rfl, ?hy21⟩) (by assumption) ?rest21
  case hy21 => (intro w hSw; (try dsimp only at hSw); go_simp; all_goals (with_reducible rfl))
  (try simp only [Act.put, List.setIfInBounds_toArray, List.set_cons_zero, List.set_cons_succ])
  refine wpAnyH_take (i := 22) (oi := { dst := some 36, op := Op.load 28 (Operand.tmp 35), type := 28, pos := "ref.go:259", after := #[{ on := 21, ground := Ground.data }, { on := 13, ground := Ground.guard }], guard := some (13, true) }) (v := ?v22) rfl (by kernel_rfl) (by kernel_rfl) (by kernel_rfl) (fun _ _ _ h => h) (Or.inl ⟨by rfl, ?hy22⟩) (by assumption) ?rest22
  case hy22 => (intro w hSw; (try dsimp only at hSw); go_simp; all_goals (with_reducible rfl))
  (try simp only [Act.put, List.setIfInBounds_toArray, List.set_cons_zero, List.set_cons_succ])
  refine wpAnyH_ready (rs := [23]) (by kernel_rfl) (by simp) ?_
  refine AllReadyH.cons (o := { dst := some 37, op := Op.call { callee := Callee.value (Operand.func 28), args := #[Operand.tmp 30, Operand.tmp 32, Operand.tmp 36], argTypes := #[34, 28, 28] }, type := 4, pos := "ref.go:259", after := #[{ on := 16, ground := Ground.data }, { on := 18, ground := Ground.data }, { on := 22, ground := Ground.data }, { on := 13, ground := Ground.chain }, { on := 13, ground := Ground.guard }], guard := some (13, true) }) rfl (fun K hK => ?_) AllReadyH.nil
  go_simp
  go_at_call 28
  (with_reducible refine (Ls.rlive_any cs t q s.last sess now s.l F _ HQ.out.st.book hl1000).mono ?_)
  rintro e w0 ⟨rfl, rfl⟩
  rw [HLV.out]
  go_wp2_with fail
  refine hK.out _ _ hS0 (fun hHeld => ?_)
  clear hK K
  (try simp only [Act.put, List.setIfInBounds_toArray, List.set_cons_zero, List.set_cons_succ])
  refine wpAnyH_take (i := 24) (oi := { dst := some 38, op := Op.unOp UnOp.not 4 (Operand.tmp 37), type := 4, pos := "ref.go:259", after := #[{ on := 23, ground := Ground.data }, { on := 13, ground := Ground.guard }], guard := some (13, true) }) (v := ?v24) rfl (by kernel_rfl) (by kernel_rfl) (by kernel_rfl) (fun _ _ _ h => h) (Or.inl ⟨by rfl, ?hy24⟩) (by assumption) ?rest24
  case hy24 => (intro w hSw; (try dsimp only at hSw); go_simp; all_goals (with_reducible rfl))
  (try simp only [Act.put, List.setIfInBounds_toArray, List.set_cons_zero, List.set_cons_succ])
  refine wpAnyH_take (i := 25) (oi := { dst := some 39, op := Op.pick (Operand.tmp 27) (Operand.tmp 38) (Operand.const (Value.bool false)), type := 4, pos := "ref.go:259", after := #[{ on := 13, ground := Ground.data }, { on := 24, ground := Ground.data }], guard := none }) (v := ?v25) rfl (by kernel_rfl) (by kernel_rfl) (by kernel_rfl) (fun _ _ _ h => h) (Or.inl ⟨by rfl, ?hy25⟩) (by assumption) ?rest25
  case hy25 => (intro w hSw; (try dsimp only at hSw); go_simp; all_goals (with_reducible rfl))
  (try simp only [Act.put, List.setIfInBounds_toArray, List.set_cons_zero, List.set_cons_succ])
  refine wpAnyH_done (by kernel_rfl) ?_ _
  generalize wb.drew = w0 at *
  obtain ⟨b0, b1, b2, b3, b4, b5⟩ := cells6 HQ.out.box (Below.refl _ _)
  go_wp2
  go_ret3
  rw [HD.out]
  exact DidR.none' (n := 0) rfl HQ.out.done
-- ENDput_late
-- BEGINrenew_late
set_option maxHeartbeats 4000000 in
set_option maxRecDepth 100000 in
theorem rdo_renew_late (s : St) (c : Cm) (vo : Option Addr) (vc : Nat) (q : Nat) (cs : Array Value) (t : TypeId) (G F : List Nat) (w : World) (h : RsAt w q cs t s G F) (hs : s.Wr) (hc : c.Fit) (hv : Bts w vo c.val) (hk : c.kind = 4) (h0 : c.sess ≠ 0) (h1 : Ls.liveL s.l c.sess s.now = false) :
    Calls Tryz.prog 10 #[.pointer (some ⟨q, 0, none⟩), .agg (c.cells vo vc)] w (DidR w q cs t (doD s c) G F) := by
  have HD := Lib.hid (show doD s c = (s, 0, [], 15) by simp [doD, late, hk, h0, h1])
  obtain ⟨kind, key, val, want, sess, ticks⟩ := c
  have HC := Lib.hid hc
  have HV := Lib.hid hv
  dsimp only at hk h0 h1
  subst hk
  have HR := Lib.hid (MidR.enter h (.cells (Cm.cells ⟨4, key, val, want, sess, ticks⟩ vo vc) 39))
  have HBW := Lib.hid ((Below.refl w.heap.size w).alloc (Nat.le_refl _) (.cells (Cm.cells ⟨4, key, val, want, sess, ticks⟩ vo vc) 39))
  have HVW := Lib.hid (HV.out.below HBW.out)
  have HW := Lib.hid hs
  obtain ⟨now, hnow⟩ : ∃ now, s.now = now := ⟨_, rfl⟩
  have HN := Lib.hid hnow
  have hn40 : now ≤ 1099511627776 := hnow ▸ hs.now
  have hn64 : now < 18446744073709551616 := by omega
  have hl1000 : s.l.length ≤ 1000000 := Nat.le_trans hs.len (by decide)
  have i0 : ((sess : Int) != 0) = true := by simp; omega
  have i1 : ¬ ((sess : Int) = 0) := by omega
  rw [hnow] at h1
  have HLV := Lib.hid h1
  clear h1
  clear h hs hnow hc hv
  dsimp only [Cm.cells] at *
  go_enter Tryz.func10, Tryz.ntmps10
  go_upto_region 1 with fail
  obtain ⟨a0, a1, a2, a3, a4, a5⟩ := cells6 HR.out.box (Below.refl _ _)
  generalize w.alloc (.cells #[.int .u8 ((4 : Nat) : Int), .string key, .slice vo val.length vc, .int .u64 (want : Int), .int .u64 (sess : Int), .int .u64 (ticks : Int)] 39) = wb at *
  generalize hT : w.heap.size = T at *
  have HQ := Lib.hid HR.out.drew
  have HVQ := Lib.hid HVW.out.drew
  have hS0 := And.intro (show wb.drew.cell? ⟨T, 0, none⟩ = some (.int .u8 4) from a0) (HQ.out.sees HN.out)
  unfold SeesR at hS0
  refine wp_region_held_drew (S := (fun wx => wx.cell? ⟨T, 0, none⟩ = some (.int .u8 4) ∧ wx.cell? ⟨q, 0, none⟩ = some (.int .u64 (now : Int)) ∧
      wx.cell? ⟨T, 1, none⟩ = some (.string key) ∧ wx.cell? ⟨T, 2, none⟩ = some (.slice vo val.length vc) ∧ wx.cell? ⟨T, 3, none⟩ = some (.int .u64 (want : Int)) ∧ wx.cell? ⟨T, 4, none⟩ = some (.int .u64 (sess : Int)) ∧ wx.cell? ⟨T, 5, none⟩ = some (.int .u64 (ticks : Int)))) (by kernel_rfl) hS0 (fun hHeld => ?_)
  refine wpAnyH_take (i := 0) (oi := { dst := some 14, op := Op.fieldAddr 39 (Operand.tmp 3) 0, type := 0, pos := "ref.go:259", after := #[], guard := none }) (v := ?v0) rfl (by kernel_rfl) (by kernel_rfl) (by kernel_rfl) (fun _ _ _ h => h) (Or.inl ⟨by rfl, ?hy0⟩) (by assumption) ?rest0
  case hy0 => (intro w hSw; (try dsimp only at hSw); go_simp; all_goals (with_reducible rfl))
  (try simp only [Act.put, List.setIfInBounds_toArray, List.set_cons_zero, List.set_cons_succ])
  refine wpAnyH_take (i := 1) (oi := { dst := some 15, op := Op.load 37 (Operand.tmp 14), type := 37, pos := "ref.go:259", after := #[{ on := 0, ground := Ground.data }], guard := none }) (v := ?v1) rfl (by kernel_rfl) (by kernel_rfl) (by kernel_rfl) (fun _ _ _ h => h) (Or.inl ⟨by rfl, ?hy1⟩) (by assumption) ?rest1
  case hy1 => (intro w hSw; (try dsimp only at hSw); go_simp; all_goals (with_reducible rfl))
  (try simp only [Act.put, List.setIfInBounds_toArray, List.set_cons_zero, List.set_cons_succ])
  refine wpAnyH_take (i := 2) (oi := { dst := some 16, op := Op.binOp BinOp.eql 37 (Operand.tmp 15) (Operand.const (Value.int IntKind.u8 1)) 37, type := 4, pos := "ref.go:259", after := #[{ on := 1, ground := Ground.data }], guard := none }) (v := ?v2) rfl (by kernel_rfl) (by kernel_rfl) (by kernel_rfl) (fun _ _ _ h => h) (Or.inl ⟨by rfl, ?hy2⟩) (by assumption) ?rest2
  case hy2 => (intro w hSw; (try dsimp only at hSw); go_simp; all_goals (with_reducible rfl))
  (try simp only [Act.put, List.setIfInBounds_toArray, List.set_cons_zero, List.set_cons_succ])
  refine wpAnyH_take (i := 3) (oi := { dst := some 17, op := Op.move (Operand.tmp 16), type := 4, pos := "ref.go:259", after := #[{ on := 2, ground := Ground.data }], guard := none }) (v := ?v3) rfl (by kernel_rfl) (by kernel_rfl) (by kernel_rfl) (fun _ _ _ h => h) (Or.inl ⟨by rfl, ?hy3⟩) (by assumption) ?rest3
  case hy3 => (intro w hSw; (try dsimp only at hSw); go_simp; all_goals (with_reducible rfl))
  (try simp only [Act.put, List.setIfInBounds_toArray, List.set_cons_zero, List.set_cons_succ])
  refine wpAnyH_take (i := 4) (oi := { dst := some 18, op := Op.fieldAddr 39 (Operand.tmp 3) 0, type := 0, pos := "ref.go:259", after := #[{ on := 3, ground := Ground.guard }], guard := some (3, false) }) (v := ?v4) rfl (by kernel_rfl) (by kernel_rfl) (by kernel_rfl) (fun _ _ _ h => h) (Or.inl ⟨by rfl, ?hy4⟩) (by assumption) ?rest4
  case hy4 => (intro w hSw; (try dsimp only at hSw); go_simp; all_goals (with_reducible rfl))
  (try simp only [Act.put, List.setIfInBounds_toArray, List.set_cons_zero, List.set_cons_succ])
  refine wpAnyH_take (i := 5) (oi := { dst := some 19, op := Op.load 37 (Operand.tmp 18), type := 37, pos := "ref.go:259", after := #[{ on := 4, ground := Ground.data }, { on := 3, ground := Ground.guard }], guard := some (3, false) }) (v := ?v5) rfl (by kernel_rfl) (by kernel_rfl) (by kernel_rfl) (fun _ _ _ h => h) (Or.inl ⟨by rfl, ?hy5⟩) (by assumption) ?rest5
  case hy5 => (intro w hSw; (try dsimp only at hSw); go_simp; all_goals (with_reducible rfl))
  (try simp only [Act.put, List.setIfInBounds_toArray, List.set_cons_zero, List.set_cons_succ])
  refine wpAnyH_take (i := 6) (oi := { dst := some 20, op := Op.binOp BinOp.eql 37 (Operand.tmp 19) (Operand.const (Value.int IntKind.u8 4)) 37, type := 4, pos := "ref.go:259", after := #[{ on := 5, ground := Ground.data }, { on := 3, ground := Ground.guard }], guard := some (3, false) }) (v := ?v6) rfl (by kernel_rfl) (by kernel_rfl) (by kernel_rfl) (fun _ _ _ h => h) (Or.inl ⟨by rfl, ?hy6⟩) (by assumption) ?rest6
  case hy6 => (intro w hSw; (try dsimp only at hSw); go_simp; all_goals (with_reducible rfl))
  (try simp only [Act.put, List.setIfInBounds_toArray, List.set_cons_zero, List.set_cons_succ])
  refine wpAnyH_take (i := 7) (oi := { dst := some 21, op := Op.pick (Operand.tmp 17) (Operand.const (Value.bool true)) (Operand.tmp 20), type := 4, pos := "ref.go:259", after := #[{ on := 3, ground := Ground.data }, { on := 6, ground := Ground.data }], guard := none }) (v := ?v7) rfl (by kernel_rfl) (by kernel_rfl) (by kernel_rfl) (fun _ _ _ h => h) (Or.inl ⟨by rfl, ?hy7⟩) (by assumption) ?rest7
  case hy7 => (intro w hSw; (try dsimp only at hSw); go_simp; all_goals (with_reducible rfl))
  (try simp only [Act.put, List.setIfInBounds_toArray, List.set_cons_zero, List.set_cons_succ])
  refine wpAnyH_take (i := 8) (oi := { dst := some 22, op := Op.move (Operand.tmp 21), type := 4, pos := "ref.go:259", after := #[{ on := 7, ground := Ground.data }, { on := 3, ground := Ground.chain }], guard := none }) (v := ?v8) rfl (by kernel_rfl) (by kernel_rfl) (by kernel_rfl) (fun _ _ _ h => h) (Or.inl ⟨by rfl, ?hy8⟩) (by assumption) ?rest8
  case hy8 => (intro w hSw; (try dsimp only at hSw); go_simp; all_goals (with_reducible rfl))
  (try simp only [Act.put, List.setIfInBounds_toArray, List.set_cons_zero, List.set_cons_succ])
  refine wpAnyH_take (i := 9) (oi := { dst := some 23, op := Op.fieldAddr 39 (Operand.tmp 3) 4, type := 0, pos := "ref.go:259", after := #[{ on := 8, ground := Ground.guard }], guard := some (8, true) }) (v := ?v9) rfl (by kernel_rfl) (by kernel_rfl) (by kernel_rfl) (fun _ _ _ h => h) (Or.inl ⟨by rfl, ?hy9⟩) (by assumption) ?rest9
  case hy9 => (intro w hSw; (try dsimp only at hSw); go_simp; all_goals (with_reducible rfl))
  (try simp only [Act.put, List.setIfInBounds_toArray, List.set_cons_zero, List.set_cons_succ])
  refine wpAnyH_take (i := 10) (oi := { dst := some 24, op := Op.load 28 (Operand.tmp 23), type := 28, pos := "ref.go:259", after := #[{ on := 9, ground := Ground.data }, { on := 8, ground := Ground.guard }], guard := some (8, true) }) (v := ?v10) rfl (by kernel_rfl) (by kernel_rfl) (by kernel_rfl) (fun _ _ _ h => h) (Or.inl ⟨by rfl, ?hy10⟩) (by assumption) ?rest10
  case hy10 => (intro w hSw; (try dsimp only at hSw); go_simp; all_goals (with_reducible rfl))
  (try simp only [Act.put, List.setIfInBounds_toArray, List.set_cons_zero, List.set_cons_succ])
  refine wpAnyH_take (i := 11) (oi := { dst := some 25, op := Op.binOp BinOp.neq 28 (Operand.tmp 24) (Operand.const (Value.int IntKind.u64 0)) 28, type := 4, pos := "ref.go:259", after := #[{ on := 10, ground := Ground.data }, { on := 8, ground := Ground.guard }], guard := some (8, true) }) (v := ?v11) rfl (by kernel_rfl) (by kernel_rfl) (by kernel_rfl) (fun _ _ _ h => h) (Or.inl ⟨by rfl, ?hy11⟩) (by assumption) ?rest11
  case hy11 => (intro w hSw; (try dsimp only at hSw); go_simp; all_goals (with_reducible rfl))
  (try simp only [Act.put, List.setIfInBounds_toArray, List.set_cons_zero, List.set_cons_succ])
  refine wpAnyH_take (i := 12) (oi := { dst := some 26, op := Op.pick (Operand.tmp 22) (Operand.tmp 25) (Operand.const (Value.bool false)), type := 4, pos := "ref.go:259", after := #[{ on := 8, ground := Ground.data }, { on := 11, ground := Ground.data }], guard := none }) (v := ?v12) rfl (by kernel_rfl) (by kernel_rfl) (by kernel_rfl) (fun _ _ _ h => h) (Or.inl ⟨by rfl, ?hy12⟩) (by assumption) ?rest12
  case hy12 => (intro w hSw; (try dsimp only at hSw); go_simp; all_goals (with_reducible rfl))
  (try simp only [Act.put, List.setIfInBounds_toArray, List.set_cons_zero, List.set_cons_succ])
  refine wpAnyH_take (i := 13) (oi := { dst := some 27, op := Op.move (Operand.tmp 26), type := 4, pos := "ref.go:259", after := #[{ on := 12, ground := Ground.data }, { on := 8, ground := Ground.chain }], guard := none }) (v := ?v13) rfl (by kernel_rfl) (by kernel_rfl) (by kernel_rfl) (fun _ _ _ h => h) (Or.inl ⟨by rfl, ?hy13⟩) (by assumption) ?rest13
  case hy13 => (intro w hSw; (try dsimp only at hSw); go_simp; all_goals (with_reducible rfl))
  (try simp only [Act.put, List.setIfInBounds_toArray, List.set_cons_zero, List.set_cons_succ])
  refine wpAnyH_take (i := 14) (oi := { dst := some 28, op := Op.move (Operand.tmp 0), type := 27, pos := "ref.go:259", after := #[{ on := 13, ground := Ground.guard }], guard := some (13, true) }) (v := ?v14) rfl (by kernel_rfl) (by kernel_rfl) (by kernel_rfl) (fun _ _ _ h => h) (Or.inl ⟨by rfl, ?hy14⟩) (by assumption) ?rest14
  case hy14 => (intro w hSw; (try dsimp only at hSw); go_simp; all_goals (with_reducible rfl))
  (try simp only [Act.put, List.setIfInBounds_toArray, List.set_cons_zero, List.set_cons_succ])
  refine wpAnyH_take (i := 15) (oi := { dst := some 29, op := Op.nilCheck (Operand.tmp 28), type := 0, pos := "ref.go:259", after := #[{ on := 14, ground := Ground.data }, { on := 13, ground := Ground.guard }], guard := some (13, true) }) (v := ?v15) rfl (by kernel_rfl) (by kernel_rfl) (by kernel_rfl) (fun _ _ _ h => h) (Or.inl ⟨by rfl, ?hy15⟩) (by assumption) ?rest15
  case hy15 => (intro w hSw; (try dsimp only at hSw); go_simp; all_goals (with_reducible rfl))
  (try simp only [Act.put, List.setIfInBounds_toArray, List.set_cons_zero, List.set_cons_succ])
  refine wpAnyH_take (i := 16) (oi := { dst := some 30, op := Op.fieldAddr 36 (Operand.tmp 29) 2, type := 0, pos := "ref.go:259", after := #[{ on := 15, ground := Ground.data }, { on := 13, ground := Ground.guard }], guard := some (13, true) }) (v := ?v16) rfl (by kernel_rfl) (by kernel_rfl) (by kernel_rfl) (fun _ _ _ h => h) (Or.inl ⟨by rfl, ?hy16⟩) (by assumption) ?rest16
  case hy16 => (intro w hSw; (try dsimp only at hSw); go_simp; all_goals (with_reducible rfl))
  (try simp only [Act.put, List.setIfInBounds_toArray, List.set_cons_zero, List.set_cons_succ])
  refine wpAnyH_take (i := 17) (oi := { dst := some 31, op := Op.fieldAddr 39 (Operand.tmp 3) 4, type := 0, pos := "ref.go:259", after := #[{ on := 13, ground := Ground.guard }], guard := some (13, true) }) (v := ?v17) rfl (by kernel_rfl) (by kernel_rfl) (by kernel_rfl) (fun _ _ _ h => h) (Or.inl ⟨by rfl, ?hy17⟩) (by assumption) ?rest17
  case hy17 => (intro w hSw; (try dsimp only at hSw); go_simp; all_goals (with_reducible rfl))
  (try simp only [Act.put, List.setIfInBounds_toArray, List.set_cons_zero, List.set_cons_succ])
  refine wpAnyH_take (i := 18) (oi := { dst := some 32, op := Op.load 28 (Operand.tmp 31), type := 28, pos := "ref.go:259", after := #[{ on := 17, ground := Ground.data }, { on := 13, ground := Ground.guard }], guard := some (13, true) }) (v := ?v18) rfl (by kernel_rfl) (by kernel_rfl) (by kernel_rfl) (fun _ _ _ h => h) (Or.inl ⟨by rfl, ?hy18⟩) (by assumption) ?rest18
  case hy18 => (intro w hSw; (try dsimp only at hSw); go_simp; all_goals (with_reducible rfl))
  (try simp only [Act.put, List.setIfInBounds_toArray, List.set_cons_zero, List.set_cons_succ])
  refine wpAnyH_take (i := 19) (oi := { dst := some 33, op := Op.move (Operand.tmp 0), type := 27, pos := "ref.go:259", after := #[{ on := 13, ground := Ground.guard }], guard := some (13, true) }) (v := ?v19) rfl (by kernel_rfl) (by kernel_rfl) (by kernel_rfl) (fun _ _ _ h => h) (Or.inl ⟨by rfl, ?hy19⟩) (by assumption) ?rest19
  case hy19 => (intro w hSw; (try dsimp only at hSw); go_simp; all_goals (with_reducible rfl))
  (try simp only [Act.put, List.setIfInBounds_toArray, List.set_cons_zero, List.set_cons_succ])
  refine wpAnyH_take (i := 20) (oi := { dst := some 34, op := Op.nilCheck (Operand.tmp 33), type := 0, pos := "ref.go:259", after := #[{ on := 19, ground := Ground.data }, { on := 13, ground := Ground.guard }], guard := some (13, true) }) (v := ?v20) rfl (by kernel_rfl) (by kernel_rfl) (by kernel_rfl) (fun _ _ _ h => h) (Or.inl ⟨by rfl, ?hy20⟩) (by assumption) ?rest20
  case hy20 => (intro w hSw; (try dsimp only at hSw); go_simp; all_goals (with_reducible rfl))
  (try simp only [Act.put, List.setIfInBounds_toArray, List.set_cons_zero, List.set_cons_succ])
  refine wpAnyH_take (i := 21) (oi := { dst := some 35, op := Op.fieldAddr 36 (Operand.tmp 34) 0, type := 0, pos := "ref.go:259", after := #[{ on := 20, ground := Ground.data }, { on := 13, ground := Ground.guard }], guard := some (13, true) }) (v := ?v21) rfl (by kernel_rfl) (by kernel_rfl) (by kernel_rfl) (fun _ _ _ h => h) (Or.inl ⟨by rfl, ?hy21⟩) (by assumption) ?rest21
  case hy21 => (intro w hSw; (try dsimp only at hSw); go_simp; all_goals (with_reducible rfl))
  (try simp only [Act.put, List.setIfInBounds_toArray, List.set_cons_zero, List.set_cons_succ])
  refine wpAnyH_take (i := 22) (oi := { dst := some 36, op := Op.load 28 (Operand.tmp 35), type := 28, pos := "ref.go:259", after := #[{ on := 21, ground := Ground.data }, { on := 13, ground := Ground.guard }], guard := some (13, true) }) (v := ?v22) rfl (by kernel_rfl) (by kernel_rfl) (by kernel_rfl) (fun _ _ _ h => h) (Or.inl ⟨by rfl, ?hy22⟩) (by assumption) ?rest22
  case hy22 => (intro w hSw; (try dsimp only at hSw); go_simp; all_goals (with_reducible rfl))
  (try simp only [Act.put, List.setIfInBounds_toArray, List.set_cons_zero, List.set_cons_succ])
  refine wpAnyH_ready (rs := [23]) (by kernel_rfl) (by simp) ?_
  refine AllReadyH.cons (o := { dst := some 37, op := Op.call { callee := Callee.value (Operand.func 28), args := #[Operand.tmp 30, Operand.tmp 32, Operand.tmp 36], argTypes := #[34, 28, 28] }, type := 4, pos := "ref.go:259", after := #[{ on := 16, ground := Ground.data }, { on := 18, ground := Ground.data }, { on := 22, ground := Ground.data }, { on := 13, ground := Ground.chain }, { on := 13, ground := Ground.guard }], guard := some (13, true) }) rfl (fun K hK => ?_) AllReadyH.nil
  go_simp
  go_at_call 28
  (with_reducible refine (Ls.rlive_any cs t q s.last sess now s.l F _ HQ.out.st.book hl1000).mono ?_)
  rintro e w0 ⟨rfl, rfl⟩
  rw [HLV.out]
  go_wp2_with fail
  refine hK.out _ _ hS0 (fun hHeld => ?_)
  clear hK K
  (try simp only [Act.put, List.setIfInBounds_toArray, List.set_cons_zero, List.set_cons_succ])
  refine wpAnyH_take (i := 24) (oi := { dst := some 38, op := Op.unOp UnOp.not 4 (Operand.tmp 37), type := 4, pos := "ref.go:259", after := #[{ on := 23, ground := Ground.data }, { on := 13, ground := Ground.guard }], guard := some (13, true) }) (v := ?v24) rfl (by kernel_rfl) (by kernel_rfl) (by kernel_rfl) (fun _ _ _ h => h) (Or.inl ⟨by rfl, ?hy24⟩) (by assumption) ?rest24
  case hy24 => (intro w hSw; (try dsimp only at hSw); go_simp; all_goals (with_reducible rfl))
  (try simp only [Act.put, List.setIfInBounds_toArray, List.set_cons_zero, List.set_cons_succ])
  refine wpAnyH_take (i := 25) (oi := { dst := some 39, op := Op.pick (Operand.tmp 27) (Operand.tmp 38) (Operand.const (Value.bool false)), type := 4, pos := "ref.go:259", after := #[{ on := 13, ground := Ground.data }, { on := 24, ground := Ground.data }], guard := none }) (v := ?v25) rfl (by kernel_rfl) (by kernel_rfl) (by kernel_rfl) (fun _ _ _ h => h) (Or.inl ⟨by rfl, ?hy25⟩) (by assumption) ?rest25
  case hy25 => (intro w hSw; (try dsimp only at hSw); go_simp; all_goals (with_reducible rfl))
  (try simp only [Act.put, List.setIfInBounds_toArray, List.set_cons_zero, List.set_cons_succ])
  refine wpAnyH_done (by kernel_rfl) ?_ _
  generalize wb.drew = w0 at *
  obtain ⟨b0, b1, b2, b3, b4, b5⟩ := cells6 HQ.out.box (Below.refl _ _)
  go_wp2
  go_ret3
  rw [HD.out]
  exact DidR.none' (n := 0) rfl HQ.out.done
-- ENDrenew_late
-- BEGINsnap
set_option maxHeartbeats 4000000 in
set_option maxRecDepth 100000 in
theorem rdo_snap (s : St) (c : Cm) (vo : Option Addr) (vc : Nat) (q : Nat) (cs : Array Value) (t : TypeId) (G F : List Nat) (w : World) (h : RsAt w q cs t s G F) (hs : s.Wr) (hc : c.Fit) (hv : Bts w vo c.val) (hk : c.kind = 7) :
    Calls Tryz.prog 10 #[.pointer (some ⟨q, 0, none⟩), .agg (c.cells vo vc)] w (DidR w q cs t (doD s c) G F) := by
  have HD := Lib.hid (show doD s c = (s, 0, [], 0) by simp [doD, late, hk])
  obtain ⟨kind, key, val, want, sess, ticks⟩ := c
  have HC := Lib.hid hc
  have HV := Lib.hid hv
  dsimp only at hk
  subst hk
  have HR := Lib.hid (MidR.enter h (.cells (Cm.cells ⟨7, key, val, want, sess, ticks⟩ vo vc) 39))
  have HBW := Lib.hid ((Below.refl w.heap.size w).alloc (Nat.le_refl _) (.cells (Cm.cells ⟨7, key, val, want, sess, ticks⟩ vo vc) 39))
  have HVW := Lib.hid (HV.out.below HBW.out)
  have HW := Lib.hid hs
  obtain ⟨now, hnow⟩ : ∃ now, s.now = now := ⟨_, rfl⟩
  have HN := Lib.hid hnow
  have hn40 : now ≤ 1099511627776 := hnow ▸ hs.now
  have hn64 : now < 18446744073709551616 := by omega
  clear h hs hnow hc hv
  dsimp only [Cm.cells] at *
  go_enter Tryz.func10, Tryz.ntmps10
  go_upto_region 1 with fail
  obtain ⟨a0, a1, a2, a3, a4, a5⟩ := cells6 HR.out.box (Below.refl _ _)
  generalize w.alloc (.cells #[.int .u8 ((7 : Nat) : Int), .string key, .slice vo val.length vc, .int .u64 (want : Int), .int .u64 (sess : Int), .int .u64 (ticks : Int)] 39) = wb at *
  generalize hT : w.heap.size = T at *
  go_quiet (fail)
  have HQ := Lib.hid (HR.out.drewN nq)
  have HVQ := Lib.hid (HVW.out.below (below_drewN (Below.refl _ wb) nq))
  obtain ⟨b0, b1, b2, b3, b4, b5⟩ := cells6 HQ.out.box (Below.refl _ _)
  generalize wb.drewN nq = w0 at *
  go_wp2
  go_ret3
  rw [HD.out]
  exact DidR.none' (n := 0) rfl HQ.out.done
-- ENDsnap
-- BEGINother
set_option maxHeartbeats 4000000 in
set_option maxRecDepth 100000 in
theorem rdo_other (s : St) (c : Cm) (vo : Option Addr) (vc : Nat) (q : Nat) (cs : Array Value) (t : TypeId) (G F : List Nat) (w : World) (h : RsAt w q cs t s G F) (hs : s.Wr) (hc : c.Fit) (hv : Bts w vo c.val) (hk : c.kind = 0 ∨ 7 < c.kind) :
    Calls Tryz.prog 10 #[.pointer (some ⟨q, 0, none⟩), .agg (c.cells vo vc)] w (DidR w q cs t (doD s c) G F) := by
  have HD := Lib.hid (show doD s c = (s, 0, [], 16) by (have g : ∀ i, 1 ≤ i → i ≤ 7 → c.kind ≠ i := fun i _ _ => by omega); simp [doD, late, g 1, g 2, g 3, g 4, g 5, g 6, g 7])
  obtain ⟨kind, key, val, want, sess, ticks⟩ := c
  have HC := Lib.hid hc
  have HV := Lib.hid hv
  dsimp only at hk
  have HR := Lib.hid (MidR.enter h (.cells (Cm.cells ⟨kind, key, val, want, sess, ticks⟩ vo vc) 39))
  have HBW := Lib.hid ((Below.refl w.heap.size w).alloc (Nat.le_refl _) (.cells (Cm.cells ⟨kind, key, val, want, sess, ticks⟩ vo vc) 39))
  have HVW := Lib.hid (HV.out.below HBW.out)
  have HW := Lib.hid hs
  obtain ⟨now, hnow⟩ : ∃ now, s.now = now := ⟨_, rfl⟩
  have HN := Lib.hid hnow
  have hn40 : now ≤ 1099511627776 := hnow ▸ hs.now
  have hn64 : now < 18446744073709551616 := by omega
  have k1 : ((kind : Int) == 1) = false := by simp; omega
  have k2 : ((kind : Int) == 2) = false := by simp; omega
  have k3 : ((kind : Int) == 3) = false := by simp; omega
  have k4 : ((kind : Int) == 4) = false := by simp; omega
  have k5 : ((kind : Int) == 5) = false := by simp; omega
  have k6 : ((kind : Int) == 6) = false := by simp; omega
  have k7 : ((kind : Int) == 7) = false := by simp; omega
  have j1 : ¬ ((kind : Int) = 1) := by omega
  have j2 : ¬ ((kind : Int) = 2) := by omega
  have j3 : ¬ ((kind : Int) = 3) := by omega
  have j4 : ¬ ((kind : Int) = 4) := by omega
  have j5 : ¬ ((kind : Int) = 5) := by omega
  have j6 : ¬ ((kind : Int) = 6) := by omega
  have j7 : ¬ ((kind : Int) = 7) := by omega
  clear h hs hnow hc hv
  dsimp only [Cm.cells] at *
  go_enter Tryz.func10, Tryz.ntmps10
  go_upto_region 1 with fail
  obtain ⟨a0, a1, a2, a3, a4, a5⟩ := cells6 HR.out.box (Below.refl _ _)
  generalize w.alloc (.cells #[.int .u8 (kind : Int), .string key, .slice vo val.length vc, .int .u64 (want : Int), .int .u64 (sess : Int), .int .u64 (ticks : Int)] 39) = wb at *
  generalize hT : w.heap.size = T at *
  go_quiet (fail)
  have HQ := Lib.hid (HR.out.drewN nq)
  have HVQ := Lib.hid (HVW.out.below (below_drewN (Below.refl _ wb) nq))
  obtain ⟨b0, b1, b2, b3, b4, b5⟩ := cells6 HQ.out.box (Below.refl _ _)
  generalize wb.drewN nq = w0 at *
  go_wp2
  go_ret3
  rw [HD.out]
  exact DidR.none' (n := 0) rfl HQ.out.done
-- ENDother
-- BEGINclose
set_option maxHeartbeats 4000000 in
set_option maxRecDepth 100000 in
theorem rdo_close (s : St) (c : Cm) (vo : Option Addr) (vc : Nat) (q : Nat) (cs : Array Value) (t : TypeId) (G F : List Nat) (w : World) (h : RsAt w q cs t s G F) (hs : s.Wr) (hc : c.Fit) (hv : Bts w vo c.val) (hk : c.kind = 5) :
    Calls Tryz.prog 10 #[.pointer (some ⟨q, 0, none⟩), .agg (c.cells vo vc)] w (DidR w q cs t (doD s c) G F) := by
  have HD := Lib.hid (show doD s c = ({ s with l := (Ls.closeL s.l c.sess).1, ps := if (Ls.closeL s.l c.sess).2 = 0 then Tr.dropP s.ps c.sess else s.ps }, 0, [], (Ls.closeL s.l c.sess).2) by simp [doD, late, hk])
  obtain ⟨kind, key, val, want, sess, ticks⟩ := c
  have HC := Lib.hid hc
  have HV := Lib.hid hv
  dsimp only at hk
  subst hk
  have HR := Lib.hid (MidR.enter h (.cells (Cm.cells ⟨5, key, val, want, sess, ticks⟩ vo vc) 39))
  have HBW := Lib.hid ((Below.refl w.heap.size w).alloc (Nat.le_refl _) (.cells (Cm.cells ⟨5, key, val, want, sess, ticks⟩ vo vc) 39))
  have HVW := Lib.hid (HV.out.below HBW.out)
  have HW := Lib.hid hs
  obtain ⟨now, hnow⟩ : ∃ now, s.now = now := ⟨_, rfl⟩
  have HN := Lib.hid hnow
  have hn40 : now ≤ 1099511627776 := hnow ▸ hs.now
  have hn64 : now < 18446744073709551616 := by omega
  have hl4 : s.l.length ≤ 4096 := Nat.le_trans hs.len (by decide)
  clear h hs hnow hc hv
  dsimp only [Cm.cells] at *
  go_enter Tryz.func10, Tryz.ntmps10
  go_upto_region 1 with fail
  obtain ⟨a0, a1, a2, a3, a4, a5⟩ := cells6 HR.out.box (Below.refl _ _)
  generalize w.alloc (.cells #[.int .u8 ((5 : Nat) : Int), .string key, .slice vo val.length vc, .int .u64 (want : Int), .int .u64 (sess : Int), .int .u64 (ticks : Int)] 39) = wb at *
  generalize hT : w.heap.size = T at *
  go_quiet (fail)
  have HQ := Lib.hid (HR.out.drewN nq)
  have HVQ := Lib.hid (HVW.out.below (below_drewN (Below.refl _ wb) nq))
  obtain ⟨b0, b1, b2, b3, b4, b5⟩ := cells6 HQ.out.box (Below.refl _ _)
  generalize wb.drewN nq = w0 at *
  go_upto_region 15 with fail
  have HQd := Lib.hid HQ.out.drew
  have hS2 := HQd.out.sees HN.out
  unfold SeesR at hS2
  go_region_held3 (fun wx => wx.cell? ⟨q, 0, none⟩ = some (.int .u64 (now : Int)) ∧
      wx.cell? ⟨T, 1, none⟩ = some (.string key) ∧ wx.cell? ⟨T, 2, none⟩ = some (.slice vo val.length vc) ∧ wx.cell? ⟨T, 3, none⟩ = some (.int .u64 (want : Int)) ∧ wx.cell? ⟨T, 4, none⟩ = some (.int .u64 (sess : Int)) ∧ wx.cell? ⟨T, 5, none⟩ = some (.int .u64 (ticks : Int)))
    (first | exact hS2 | exact hS3)
    (first | (go_at_call 33; (with_reducible refine (Ls.rclose_all cs t q s.last sess s.l F _ HQd.out.st.book hl4).mono ?_); rintro e w1 ⟨rfl, hw1⟩; obtain ⟨cs1, L1, hm1⟩ := HQd.out.book hw1; have hS3 := hm1.sees HN.out; unfold SeesR at hS3; have H1 := Lib.hid hm1; clear hw1 hm1))
  clear hS3
  by_cases hz : (Ls.closeL s.l sess).2 = 0
  · have hzi : ((Ls.closeL s.l sess).2 == 0) = true := by simp [hz]
    rw [if_pos hz] at HD
    have HZ := Lib.hid hz
    clear hz
    go_upto_region 17 with fail
    have HMd := Lib.hid H1.out.drew
    have hS4 := HMd.out.sees HN.out
    unfold SeesR at hS4
    go_region_held3 (fun wx => wx.cell? ⟨q, 0, none⟩ = some (.int .u64 (now : Int)) ∧
      wx.cell? ⟨T, 1, none⟩ = some (.string key) ∧ wx.cell? ⟨T, 2, none⟩ = some (.slice vo val.length vc) ∧ wx.cell? ⟨T, 3, none⟩ = some (.int .u64 (want : Int)) ∧ wx.cell? ⟨T, 4, none⟩ = some (.int .u64 (sess : Int)) ∧ wx.cell? ⟨T, 5, none⟩ = some (.int .u64 (ticks : Int)))
      (first | exact hS4 | exact hS5)
      (first | (go_at_call 34; (with_reducible refine (Tr.rdrop_any q cs1 t s.ps G sess _ HMd.out.st.tree HW.out.many).mono ?_); rintro e w2 ⟨rfl, hw2⟩; obtain ⟨cs2, L2, hm2⟩ := HMd.out.tree hw2; have hS5 := hm2.sees HN.out; unfold SeesR at hS5; have H2 := Lib.hid hm2; clear hw2 hm2))
    go_wp2
    go_ret3
    obtain rfl := HN.out
    rw [HD.out]
    exact DidR.none' (n := 0) rfl H2.out.done
  · have hzi : ((Ls.closeL s.l sess).2 == 0) = false := by simp [hz]
    rw [if_neg hz] at HD
    clear hz
    go_wp2
    go_ret3
    obtain rfl := HN.out
    rw [HD.out]
    exact DidR.none' (n := 0) rfl H1.out.done
-- ENDclose
-- BEGINtick
set_option maxHeartbeats 4000000 in
set_option maxRecDepth 100000 in
theorem rdo_tick (s : St) (c : Cm) (vo : Option Addr) (vc : Nat) (q : Nat) (cs : Array Value) (t : TypeId) (G F : List Nat) (w : World) (h : RsAt w q cs t s G F) (hs : s.Wr) (hc : c.Fit) (hv : Bts w vo c.val) (hk : c.kind = 6) :
    Calls Tryz.prog 10 #[.pointer (some ⟨q, 0, none⟩), .agg (c.cells vo vc)] w (DidR w q cs t (doD s c) G F) := by
  have HD := Lib.hid (show doD s c = ({ s with now := s.now + min c.ticks (1099511627776 - s.now), l := Ls.stays s.l (s.now + min c.ticks (1099511627776 - s.now)), ps := dropAll s.ps (Ls.expired s.l (s.now + min c.ticks (1099511627776 - s.now))) }, s.now + min c.ticks (1099511627776 - s.now), Ls.expired s.l (s.now + min c.ticks (1099511627776 - s.now)), 0) by simp [doD, late, hk])
  obtain ⟨kind, key, val, want, sess, ticks⟩ := c
  have HC := Lib.hid hc
  have HV := Lib.hid hv
  dsimp only at hk
  subst hk
  have HR := Lib.hid (MidR.enter h (.cells (Cm.cells ⟨6, key, val, want, sess, ticks⟩ vo vc) 39))
  have HBW := Lib.hid ((Below.refl w.heap.size w).alloc (Nat.le_refl _) (.cells (Cm.cells ⟨6, key, val, want, sess, ticks⟩ vo vc) 39))
  have HVW := Lib.hid (HV.out.below HBW.out)
  have HW := Lib.hid hs
  obtain ⟨now, hnow⟩ : ∃ now, s.now = now := ⟨_, rfl⟩
  have HN := Lib.hid hnow
  have hn40 : now ≤ 1099511627776 := hnow ▸ hs.now
  have hn64 : now < 18446744073709551616 := by omega
  have hl1000 : s.l.length ≤ 1000000 := Nat.le_trans hs.len (by decide)
  clear h hs hnow hc hv
  dsimp only [Cm.cells] at *
  go_enter Tryz.func10, Tryz.ntmps10
  go_upto_region 1 with fail
  obtain ⟨a0, a1, a2, a3, a4, a5⟩ := cells6 HR.out.box (Below.refl _ _)
  generalize w.alloc (.cells #[.int .u8 ((6 : Nat) : Int), .string key, .slice vo val.length vc, .int .u64 (want : Int), .int .u64 (sess : Int), .int .u64 (ticks : Int)] 39) = wb at *
  generalize hT : w.heap.size = T at *
  go_quiet (fail)
  have HQ := Lib.hid (HR.out.drewN nq)
  have HVQ := Lib.hid (HVW.out.below (below_drewN (Below.refl _ wb) nq))
  obtain ⟨b0, b1, b2, b3, b4, b5⟩ := cells6 HQ.out.box (Below.refl _ _)
  generalize wb.drewN nq = w0 at *
  have e1 : IntKind.u64.wrap (1099511627776 - (now : Int)) = ((1099511627776 - now : Nat) : Int) := by rw [IntWalk.u64_in _ (by omega)]; omega
  obtain ⟨rest, hrest⟩ : ∃ r, 1099511627776 - now = r := ⟨_, rfl⟩
  rw [hrest] at e1
  obtain ⟨n1, hn1⟩ : ∃ n1, now + min ticks rest = n1 := ⟨_, rfl⟩
  have HRS := Lib.hid (And.intro hrest hn1)
  have HN1 := Lib.hid (show s.now + min ticks (1099511627776 - s.now) = n1 by rw [HN.out, hrest]; exact hn1)
  have hn1b : n1 ≤ 1099511627776 := by omega
  have hn164 : n1 < 18446744073709551616 := by omega
  rw [HN1.out] at HD
  have htk := HC.out.ticks
  dsimp only at htk
  go_upto_region 20 with fail
  obtain ⟨z0, zf⟩ := HQ.out.st.cell
  rw [HN.out] at z0
  clear hrest hn1
  go_quiet (fail)
  have HQ2 := Lib.hid (HQ.out.drewN nq)
  generalize w0.drewN nq = wq at *
  clear z0 zf b0 b1 b2 b3 b4 b5 a0 a1 a2 a3 a4 a5
  go_upto_if 126 with fail
  go_cut [] (fun wx => MidR w wx q cs (cs.setIfInBounds 0 (.int .u64 (n1 : Int))) t { s with now := n1 } G F G F T (.cells #[.int .u8 ((6 : Nat) : Int), .string key, .slice vo val.length vc, .int .u64 (want : Int), .int .u64 (sess : Int), .int .u64 (ticks : Int)] 39))
  case first =>
    obtain ⟨z0, zf⟩ := HQ2.out.st.cell
    rw [HN.out] at z0
    have zf0 := zf 0
    obtain ⟨b0, b1, b2, b3, b4, b5⟩ := cells6 HQ2.out.box (Below.refl _ _)
    by_cases hgt : rest < ticks
    · have hgi : (rest : Int) < (ticks : Int) := by omega
      have hne : n1 = 1099511627776 := by have := HRS.out; omega
      have HM := Lib.hid (HQ2.out.now n1)
      rw [hne] at HM
      clear zf
      go_wp2
      go_meet
      rw [hne]
      exact HM.out
    · have hgi : ¬ (rest : Int) < (ticks : Int) := by omega
      have e2 : IntKind.u64.wrap ((now : Int) + (ticks : Int)) = (n1 : Int) := by have := HRS.out; rw [IntWalk.u64_in _ (by omega)]; omega
      have HQ3 := Lib.hid HQ2.out.drew
      have y0 := HQ3.out.st.cell.1
      rw [HN.out] at y0
      have yf := HQ3.out.st.cell.2 0
      have HM := Lib.hid (HQ3.out.now n1)
      clear zf hgt
      go_wp2
      go_still_tail 10, (by kernel_rfl)
      repeat still_step
      change wpList _ _ _ _ _ wq.drew
      go_wp2
      go_meet
      exact HM.out
  case rest =>
    have HM3 := Lib.hid hcut.drew
    clear hcut
    go_upto_region 23 with fail
    have hS2 := HM3.out.sees (now := n1) rfl
    unfold SeesR at hS2
    go_region_held3 (fun wx => wx.cell? ⟨q, 0, none⟩ = some (.int .u64 (n1 : Int)) ∧
      wx.cell? ⟨T, 1, none⟩ = some (.string key) ∧ wx.cell? ⟨T, 2, none⟩ = some (.slice vo val.length vc) ∧ wx.cell? ⟨T, 3, none⟩ = some (.int .u64 (want : Int)) ∧ wx.cell? ⟨T, 4, none⟩ = some (.int .u64 (sess : Int)) ∧ wx.cell? ⟨T, 5, none⟩ = some (.int .u64 (ticks : Int)))
      (first | exact hS2 | exact hS3)
      (first | (go_at_call 35; (with_reducible refine (Ls.rexpire_any _ t q s.last n1 s.l F _ HM3.out.st.book hl1000).mono ?_); rintro e w3 ⟨uo, m, uc, rfl, ho3, hn3, hw3⟩; obtain ⟨cs1, F1, hm3⟩ := HM3.out.book hw3; have hS3 := hm3.sees (now := n1) rfl; unfold SeesR at hS3; have hk4 : ∀ a, uo = some a → a.block ≠ q := (fun a ha hk => by have := hn3 a ha; have := HM3.out.st.lt; omega); have H3 := Lib.hid (And.intro hm3 (And.intro ho3 (And.intro (fun a ha => Nat.le_trans HM3.out.chg.size (hn3 a ha)) hk4))); clear ho3 hn3 hw3 hm3 hk4))
    have hm17 : m ≤ 16 := by have h := H3.out.2.1.len; rw [List.length_map] at h; have h2 := Ls.expired_len s.l n1; have h3 := HW.out.len; omega
    obtain ⟨gone, hgone⟩ : ∃ gone, Ls.expired s.l n1 = gone := ⟨_, rfl⟩
    rw [hgone] at H3 HD
    have HML := Lib.hid (show gone.length = m by have h := H3.out.2.1.len; rw [List.length_map] at h; omega)
    clear hgone hS3 hS2
    go_wp2
    go_loopg [13] m (fun g i wr => ∃ (k : Nat) (cs2 : Array Value) (G1 : List Nat), g + k = m ∧ i = .int .i64 k ∧ MidR w wr q cs cs2 t { now := n1, ps := dropAll s.ps (gone.take k), last := s.last, l := Ls.stays s.l n1 } G F G1 F1 T (.cells #[.int .u8 ((6 : Nat) : Int), .string key, .slice vo val.length vc, .int .u64 (want : Int), .int .u64 (sess : Int), .int .u64 (ticks : Int)] 39) ∧ Own wr 1 uo m uc (gone.map Ls.idCell) ∧ (dropAll s.ps (gone.take k)).length ≤ 256)
    case atStart => exact ⟨0, cs1, G, by omega, rfl, H3.out.1, H3.out.2.1, HW.out.many⟩
    case round =>
      obtain ⟨k, cs2, G1, hgk, rfl, hm, ho, hf⟩ := hrel
      by_cases hk : k < m
      · obtain ⟨x, hx⟩ : ∃ x, gone[k]? = some x := ⟨_, List.getElem?_eq_getElem (by rw [HML.out]; exact hk)⟩
        have hkb := H3.out.2.2.2
        obtain ⟨b, off, rfl, hb⟩ := Ls.id_at ho hx
        have hki : (k : Int) < (m : Int) := by omega
        have hk0 : (0 : Int) ≤ (k : Int) := by omega
        have hbq : b ≠ q := hkb _ rfl
        have HRR := Lib.hid (And.intro hm.drew (And.intro ho (And.intro hx (And.intro hf hbq))))
        have hS4 : wr.drew.cell? ⟨b, off + k, none⟩ = some (.int .u64 (x : Int)) := hb
        clear hm ho hf hx hkb
        go_wp2
        go_region_held3 (fun wx => wx.cell? ⟨b, off + k, none⟩ = some (.int .u64 (x : Int)))
          (first | exact hS4 | exact hS5)
          (first | (go_at_call 34; (with_reducible refine (Tr.rdrop_any q cs2 t _ G1 x _ HRR.out.1.st.tree HRR.out.2.2.2.1).mono ?_); rintro e w4 ⟨rfl, hw4⟩; have hS5 := hw4.chg.cell hS4 HRR.out.2.2.2.2; obtain ⟨cs3, G3, hm4⟩ := HRR.out.1.tree hw4; have H4 := Lib.hid (And.intro hm4 (HRR.out.2.1.drew.keep hw4.chg (fun a ha e => HRR.out.2.2.2.2 (by cases ha; exact e)))); clear hw4 hm4))
        go_wp2
        go_roundg (gk - 1)
        case measure => omega
        case rel =>
          have ht : gone.take (k + 1) = gone.take k ++ [x] := by rw [List.take_add_one, HRR.out.2.2.1]; rfl
          have hd : dropAll s.ps (gone.take (k + 1)) = Tr.dropP (dropAll s.ps (gone.take k)) x := by rw [ht]; simp [dropAll]
          exact ⟨k + 1, cs3, G3, by omega, by go_num, by rw [hd]; exact H4.out.1, H4.out.2, by rw [hd]; exact Nat.le_trans drop_len2 HRR.out.2.2.2.1⟩
      · obtain rfl : k = m := by omega
        have hkn : ¬ (k : Int) < (k : Int) := by omega
        have HRR := Lib.hid (And.intro hm ho)
        obtain ⟨z0, zf⟩ := hm.st.cell
        dsimp only at z0
        clear hm ho hf
        go_wp2
        go_ret3
        rw [HD.out]
        have htk : gone.take k = gone := List.take_of_length_le (by rw [HML.out]; exact Nat.le_refl _)
        rw [htk] at HRR
        exact ⟨uo, uc, by rw [HML.out]; rfl, by rw [HML.out]; exact HRR.out.2, H3.out.2.2.1, HRR.out.1.done⟩
-- ENDtick
theorem rdo_any (s : St) (c : Cm) (vo : Option Addr) (vc : Nat) (q : Nat) (cs : Array Value) (t : TypeId) (G F : List Nat) (w : World) (h : RsAt w q cs t s G F) (hs : s.Wr) (hc : c.Fit) (hv : Bts w vo c.val) :
    Calls Tryz.prog 10 #[.pointer (some ⟨q, 0, none⟩), .agg (c.cells vo vc)] w (DidR w q cs t (doD s c) G F) := by
  by_cases h1 : c.kind = 1
  · by_cases h0 : c.sess = 0
    · exact rdo_put_zero s c vo vc q cs t G F w h hs hc hv h1 h0
    · cases hl : Ls.liveL s.l c.sess s.now with
      | true => exact rdo_put_live s c vo vc q cs t G F w h hs hc hv h1 h0 hl
      | false => exact rdo_put_late s c vo vc q cs t G F w h hs hc hv h1 h0 hl
  by_cases h2 : c.kind = 2
  · exact rdo_delete s c vo vc q cs t G F w h hs hc hv h2
  by_cases h3 : c.kind = 3
  · exact rdo_open s c vo vc q cs t G F w h hs hc hv h3
  by_cases h4 : c.kind = 4
  · by_cases h0 : c.sess = 0
    · exact rdo_renew_zero s c vo vc q cs t G F w h hs hc hv h4 h0
    · cases hl : Ls.liveL s.l c.sess s.now with
      | true => exact rdo_renew_live s c vo vc q cs t G F w h hs hc hv h4 h0 hl
      | false => exact rdo_renew_late s c vo vc q cs t G F w h hs hc hv h4 h0 hl
  by_cases h5 : c.kind = 5
  · exact rdo_close s c vo vc q cs t G F w h hs hc hv h5
  by_cases h6 : c.kind = 6
  · exact rdo_tick s c vo vc q cs t G F w h hs hc hv h6
  by_cases h7 : c.kind = 7
  · exact rdo_snap s c vo vc q cs t G F w h hs hc hv h7
  exact rdo_other s c vo vc q cs t G F w h hs hc hv (by omega)
end Go.Proofs.YtackmgmaippajaaGreat
