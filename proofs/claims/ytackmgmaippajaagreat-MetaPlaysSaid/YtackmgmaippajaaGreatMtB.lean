/-
  LAYER 8: what a command does.
-/
import Derived.Test.YtackmgmaippajaaGreatMtA
import Derived.Test.YtackmgmaippajaaGreatMtC
import Derived.Deep.RegionHeld3
import Derived.Deep.RegionWith
import Derived.StillTailTactics
namespace Go.Proofs.YtackmgmaippajaaGreat
open Go Go.RowKit

/-- What a command needs of a state. -/
structure St.Wk (s : St) : Prop where
  fine : Tr.Fine s.ps
  now : s.now ≤ 1099511627776
  last : s.last < 18446744073709551616
  len : s.l.length ≤ 16
  life : ∀ e ∈ s.l, e.life < 18446744073709551616
/-- What a call leaves of a state. -/
def Now8 (w w' : World) (sp : Nat) (cs : Array Value) (t : TypeId) (s' : St) (kp bp : Nat) (F1 F2 : List Nat) : Prop :=
  ∃ F1' F2', StAt w' sp (cs.setIfInBounds 0 (.int .u64 (s'.now : Int))) t s' kp bp F1' F2' ∧ Chg (fun k => k = sp ∨ k ∈ F1 ∨ k ∈ F2) w w' ∧ (∀ k ∈ F1', k ∈ F1 ∨ w.heap.size ≤ k) ∧ ∀ k ∈ F2', k ∈ F2 ∨ w.heap.size ≤ k
theorem set_self {cs : Array Value} {i : Nat} {v : Value} (h : cs[i]? = some v) : cs.setIfInBounds i v = cs := by
  apply Array.ext_getElem?
  intro j
  rw [Array.getElem?_setIfInBounds]
  by_cases hij : i = j
  · subst hij
    have hi := (Array.getElem?_eq_some_iff.1 h).1
    rw [if_pos rfl, if_pos hi, h]
  · rw [if_neg hij]
section
variable {w w' : World} {sp kp bp : Nat} {cs : Array Value} {t : TypeId} {s s' : St} {F1 F2 : List Nat}
theorem StAt.lt (h : StAt w sp cs t s kp bp F1 F2) : sp < w.heap.size := heap_lt h.heap
theorem Now8.same (h : StAt w sp cs t s kp bp F1 F2) (hb : Below w.heap.size w w') : Now8 w w' sp cs t s kp bp F1 F2 :=
  ⟨F1, F2, by rw [set_self h.at0]; exact h.stays hb, Chg.of_below hb _, fun _ h => .inl h, fun _ h => .inl h⟩
theorem Now8.tree {w0 : World} {ps : List Tr.Pl} (hb : Below w.heap.size w w0) (h : StAt w0 sp cs t s kp bp F1 F2) (hw : Tr.Wrote w0 w' kp ps F1) : Now8 w w' sp cs t { s with ps := ps } kp bp F1 F2 := by
  obtain ⟨F1', g1, g2, g3⟩ := hw
  refine ⟨F1', F2, ?_, ((Chg.of_below hb _).trans g2 (fun i _ hi => .inr (.inl hi))), fun k hk => (g3 k hk).imp id (fun h => Nat.le_trans hb.size h), fun _ h => .inl h⟩
  show StAt w' sp (cs.setIfInBounds 0 (.int .u64 (s.now : Int))) t _ kp bp F1' F2
  rw [set_self h.at0]
  refine ⟨g2.heap h.heap h.out1, h.at0, h.at1, h.at2, g1, h.book.keep g2 (fun k hk hk1 => h.apart k hk1 hk), fun hk => ?_, h.out2, fun k hk hk2 => ?_⟩
  · rcases g3 _ hk with hk | hk
    · exact h.out1 hk
    · have := h.lt; omega
  · rcases g3 _ hk with hk | hk
    · exact h.apart k hk hk2
    · have := h.book.lt k hk2; omega
theorem Now8.book {w0 : World} {last : Nat} {l : List Ls.Sess} (hb : Below w.heap.size w w0) (h : StAt w0 sp cs t s kp bp F1 F2) (hw : Ls.Wrote w0 w' bp last l F2) : Now8 w w' sp cs t { s with last := last, l := l } kp bp F1 F2 := by
  obtain ⟨F2', g1, g2, g3⟩ := hw
  refine ⟨F1, F2', ?_, ((Chg.of_below hb _).trans g2 (fun i _ hi => .inr (.inr hi))), fun _ h => .inl h, fun k hk => (g3 k hk).imp id (fun h => Nat.le_trans hb.size h)⟩
  show StAt w' sp (cs.setIfInBounds 0 (.int .u64 (s.now : Int))) t _ kp bp F1 F2'
  rw [set_self h.at0]
  refine ⟨g2.heap h.heap h.out2, h.at0, h.at1, h.at2, h.tree.keep g2 (fun k hk hk2 => h.apart k hk hk2), g1, h.out1, fun hk => ?_, fun k hk1 hk => ?_⟩
  · rcases g3 _ hk with hk | hk
    · exact h.out2 hk
    · have := h.lt; omega
  · rcases g3 _ hk with hk | hk
    · exact h.apart k hk1 hk
    · have := h.tree.lt k hk1; omega
end
/-- What a command leaves: its answer, the state; the sessions that went are in memory of their own. -/
def Did8 (w : World) (sp : Nat) (cs : Array Value) (t : TypeId) (d : St × Nat × List Nat × Int) (kp bp : Nat) (F1 F2 : List Nat) (e : Ending) (w' : World) : Prop :=
  ∃ uo uc, e = .returned (.tuple #[.int .u64 (d.2.1 : Int), .slice uo d.2.2.1.length uc, .int .i64 d.2.2.2]) ∧ Own w' 1 uo d.2.2.1.length uc (d.2.2.1.map Ls.idCell) ∧ (∀ a, uo = some a → w.heap.size ≤ a.block) ∧ Now8 w w' sp cs t d.1 kp bp F1 F2
theorem Did8.none' {w w' : World} {sp kp bp : Nat} {cs : Array Value} {t : TypeId} {s' : St} {F1 F2 : List Nat} {n : Nat} {code : Int} {e : Ending} (he : e = .returned (.tuple #[.int .u64 (n : Int), .slice none 0 0, .int .i64 code])) (h : Now8 w w' sp cs t s' kp bp F1 F2) : Did8 w sp cs t (s', n, [], code) kp bp F1 F2 e w' :=
  ⟨none, 0, he, Own.nil' _ _, by simp, h⟩
/-- The command's own cells, behind its entry. -/
abbrev cmW (w : World) (c : Cm) (vo : Option Addr) (vc : Nat) : World := w.alloc (.cells (c.cells vo vc) 39)
/-- A state, and a command's own cells. -/
structure Run8 (w w0 : World) (sp : Nat) (cs : Array Value) (t : TypeId) (s : St) (kp bp : Nat) (F1 F2 : List Nat) (T : Nat) (o : Obj) : Prop where
  st : StAt w0 sp cs t s kp bp F1 F2
  box : w0.heap[T]? = some o
  below : Below w.heap.size w w0
  new : w.heap.size ≤ T
  old : StAt w sp cs t s kp bp F1 F2
theorem Run8.enter {w : World} {sp kp bp : Nat} {cs : Array Value} {t : TypeId} {s : St} {F1 F2 : List Nat} (h : StAt w sp cs t s kp bp F1 F2) (o : Obj) : Run8 w (w.alloc o) sp cs t s kp bp F1 F2 w.heap.size o :=
  have hb := (Below.refl w.heap.size w).alloc (Nat.le_refl _) o
  ⟨h.stays hb, heap_top w o, hb, Nat.le_refl _, h⟩
theorem Run8.stays {w w0 w1 : World} {sp kp bp T : Nat} {cs : Array Value} {t : TypeId} {s : St} {F1 F2 : List Nat} {o : Obj} (h : Run8 w w0 sp cs t s kp bp F1 F2 T o) (hb : Below w0.heap.size w0 w1) : Run8 w w1 sp cs t s kp bp F1 F2 T o :=
  ⟨h.st.stays hb, (Chg.of_below hb (fun _ => False)).heap h.box (fun h => h), h.below.trans (hb.mono h.below.size), h.new, h.old⟩
theorem Run8.drew {w w0 : World} {sp kp bp T : Nat} {cs : Array Value} {t : TypeId} {s : St} {F1 F2 : List Nat} {o : Obj} (h : Run8 w w0 sp cs t s kp bp F1 F2 T o) : Run8 w w0.drew sp cs t s kp bp F1 F2 T o := h.stays (Below.refl _ _).drew
theorem Run8.drewN {w w0 : World} {sp kp bp T : Nat} {cs : Array Value} {t : TypeId} {s : St} {F1 F2 : List Nat} {o : Obj} (h : Run8 w w0 sp cs t s kp bp F1 F2 T o) (n : Nat) : Run8 w (w0.drewN n) sp cs t s kp bp F1 F2 T o := h.stays (below_drewN (Below.refl _ _) n)
/-- What a region reads: the state's cells, the command's. -/
def Sees (w0 : World) (sp kp bp T : Nat) (now : Nat) (key : ByteArray) (vv : Value) (want sess ticks : Nat) : Prop :=
  (w0.cell? ⟨sp, 0, none⟩ = some (.int .u64 (now : Int)) ∧ w0.cell? ⟨sp, 1, none⟩ = some (.pointer (some ⟨kp, 0, none⟩)) ∧ w0.cell? ⟨sp, 2, none⟩ = some (.pointer (some ⟨bp, 0, none⟩))) ∧
  w0.cell? ⟨T, 1, none⟩ = some (.string key) ∧ w0.cell? ⟨T, 2, none⟩ = some vv ∧ w0.cell? ⟨T, 3, none⟩ = some (.int .u64 (want : Int)) ∧ w0.cell? ⟨T, 4, none⟩ = some (.int .u64 (sess : Int)) ∧ w0.cell? ⟨T, 5, none⟩ = some (.int .u64 (ticks : Int))
theorem Run8.sees {w w0 : World} {sp kp bp T now want sess ticks : Nat} {key : ByteArray} {k vv : Value} {cs : Array Value} {t : TypeId} {s : St} {F1 F2 : List Nat} (h : Run8 w w0 sp cs t s kp bp F1 F2 T (.cells #[k, .string key, vv, .int .u64 (want : Int), .int .u64 (sess : Int), .int .u64 (ticks : Int)] 39)) (hn : s.now = now) : Sees w0 sp kp bp T now key vv want sess ticks := by
  obtain ⟨a0, a1, a2, a3, a4, a5⟩ := cells6 h.box (Below.refl _ _)
  obtain ⟨z0, z1, z2, _⟩ := h.st.cell
  subst hn
  exact ⟨⟨z0, z1, z2⟩, a1, a2, a3, a4, a5⟩
/-- What is seen behind a call that turns no more than F. -/
theorem Run8.sees' {w w0 w1 : World} {sp kp bp T now want sess ticks : Nat} {key : ByteArray} {k vv : Value} {cs : Array Value} {t : TypeId} {s : St} {F1 F2 F : List Nat} (h : Run8 w w0 sp cs t s kp bp F1 F2 T (.cells #[k, .string key, vv, .int .u64 (want : Int), .int .u64 (sess : Int), .int .u64 (ticks : Int)] 39)) (hn : s.now = now) (hc : Chg (· ∈ F) w0 w1) (hF : ∀ k ∈ F, k ∈ F1 ∨ k ∈ F2) : Sees w1 sp kp bp T now key vv want sess ticks := by
  have hs := h.sees hn
  have h1 : sp ∉ F := fun hk => (hF _ hk).elim h.st.out1 h.st.out2
  have h2 : T ∉ F := fun hk => by
    have := h.new
    rcases hF _ hk with hk | hk
    · have := h.old.tree.lt _ hk; omega
    · have := h.old.book.lt _ hk; omega
  exact ⟨⟨hc.cell hs.1.1 h1, hc.cell hs.1.2.1 h1, hc.cell hs.1.2.2 h1⟩, hc.cell hs.2.1 h2, hc.cell hs.2.2.1 h2, hc.cell hs.2.2.2.1 h2, hc.cell hs.2.2.2.2.1 h2, hc.cell hs.2.2.2.2.2 h2⟩
theorem Now8.tree' {w w0 w' : World} {sp kp bp T : Nat} {cs : Array Value} {t : TypeId} {s : St} {F1 F2 : List Nat} {o : Obj} {ps : List Tr.Pl} (h : Run8 w w0 sp cs t s kp bp F1 F2 T o) (hw : Tr.Wrote w0 w' kp ps F1) : Now8 w w' sp cs t { s with ps := ps } kp bp F1 F2 := Now8.tree h.below h.st hw
theorem Now8.book' {w w0 w' : World} {sp kp bp T : Nat} {cs : Array Value} {t : TypeId} {s : St} {F1 F2 : List Nat} {o : Obj} {last : Nat} {l : List Ls.Sess} (h : Run8 w w0 sp cs t s kp bp F1 F2 T o) (hw : Ls.Wrote w0 w' bp last l F2) : Now8 w w' sp cs t { s with last := last, l := l } kp bp F1 F2 := Now8.book h.below h.st hw
/-- A state within a command's run: what has turned since its entry. -/
structure Mid8 (w w0 : World) (sp : Nat) (cs : Array Value) (t : TypeId) (s : St) (kp bp : Nat) (F1 F2 G1 G2 : List Nat) (T : Nat) (o : Obj) : Prop where
  st : StAt w0 sp cs t s kp bp G1 G2
  box : w0.heap[T]? = some o
  t1 : T ∉ G1
  t2 : T ∉ G2
  t3 : T ≠ sp
  chg : Chg (fun k => k = sp ∨ k ∈ F1 ∨ k ∈ F2) w w0
  g1 : ∀ k ∈ G1, k ∈ F1 ∨ w.heap.size ≤ k
  g2 : ∀ k ∈ G2, k ∈ F2 ∨ w.heap.size ≤ k
section
variable {w w0 w1 : World} {sp kp bp T : Nat} {cs : Array Value} {t : TypeId} {s : St} {F1 F2 G1 G2 : List Nat} {o : Obj}
theorem Run8.mid (h : Run8 w w0 sp cs t s kp bp F1 F2 T o) : Mid8 w w0 sp cs t s kp bp F1 F2 F1 F2 T o := by
  have hn := h.new
  refine ⟨h.st, h.box, fun hk => ?_, fun hk => ?_, fun e => ?_, Chg.of_below h.below _, fun _ h => .inl h, fun _ h => .inl h⟩
  · have := h.old.tree.lt _ hk; omega
  · have := h.old.book.lt _ hk; omega
  · have := heap_lt h.old.heap; omega
theorem Mid8.stays (h : Mid8 w w0 sp cs t s kp bp F1 F2 G1 G2 T o) (hb : Below w0.heap.size w0 w1) : Mid8 w w1 sp cs t s kp bp F1 F2 G1 G2 T o :=
  ⟨h.st.stays hb, (Chg.of_below hb (fun _ => False)).heap h.box (fun h => h), h.t1, h.t2, h.t3, h.chg.trans (Chg.of_below hb _) (fun _ _ h => h), h.g1, h.g2⟩
theorem Mid8.drew (h : Mid8 w w0 sp cs t s kp bp F1 F2 G1 G2 T o) : Mid8 w w0.drew sp cs t s kp bp F1 F2 G1 G2 T o := h.stays (Below.refl _ _).drew
theorem Mid8.drewN (h : Mid8 w w0 sp cs t s kp bp F1 F2 G1 G2 T o) (n : Nat) : Mid8 w (w0.drewN n) sp cs t s kp bp F1 F2 G1 G2 T o := h.stays (below_drewN (Below.refl _ _) n)
theorem Mid8.book {last : Nat} {l : List Ls.Sess} (h : Mid8 w w0 sp cs t s kp bp F1 F2 G1 G2 T o) (hw : Ls.Wrote w0 w1 bp last l G2) : ∃ G2', Mid8 w w1 sp cs t { s with last := last, l := l } kp bp F1 F2 G1 G2' T o := by
  obtain ⟨G2', k1, k2, k3⟩ := hw
  have hT := heap_lt h.box
  refine ⟨G2', ⟨k2.heap h.st.heap h.st.out2, h.st.at0, h.st.at1, h.st.at2, h.st.tree.keep k2 (fun k hk hk2 => h.st.apart k hk hk2), k1, h.st.out1, fun hk => ?_, fun k hk1 hk => ?_⟩, k2.heap h.box h.t2, h.t1, fun hk => ?_, h.t3, h.chg.trans k2 (fun i hi hk => ?_), h.g1, fun k hk => ?_⟩
  · rcases k3 _ hk with hk | hk
    · exact h.st.out2 hk
    · have := h.st.lt; omega
  · rcases k3 _ hk with hk | hk
    · exact h.st.apart k hk1 hk
    · have := h.st.tree.lt k hk1; omega
  · rcases k3 _ hk with hk | hk
    · exact h.t2 hk
    · omega
  · rcases h.g2 i hk with h' | h'
    · exact .inr (.inr h')
    · omega
  · rcases k3 _ hk with hk | hk
    · exact h.g2 k hk
    · exact .inr (Nat.le_trans h.chg.size hk)
theorem Mid8.tree {ps : List Tr.Pl} (h : Mid8 w w0 sp cs t s kp bp F1 F2 G1 G2 T o) (hw : Tr.Wrote w0 w1 kp ps G1) : ∃ G1', Mid8 w w1 sp cs t { s with ps := ps } kp bp F1 F2 G1' G2 T o ∧ Chg (· ∈ G1) w0 w1 ∧ ∀ k ∈ G1', k ∈ G1 ∨ w0.heap.size ≤ k := by
  obtain ⟨G1', k1, k2, k3⟩ := hw
  have hT := heap_lt h.box
  refine ⟨G1', ⟨⟨k2.heap h.st.heap h.st.out1, h.st.at0, h.st.at1, h.st.at2, k1, h.st.book.keep k2 (fun k hk hk1 => h.st.apart k hk1 hk), fun hk => ?_, h.st.out2, fun k hk hk2 => ?_⟩, k2.heap h.box h.t1, fun hk => ?_, h.t2, h.t3, h.chg.trans k2 (fun i hi hk => ?_), fun k hk => ?_, h.g2⟩, k2, k3⟩
  · rcases k3 _ hk with hk | hk
    · exact h.st.out1 hk
    · have := h.st.lt; omega
  · rcases k3 _ hk with hk | hk
    · exact h.st.apart k hk hk2
    · have := h.st.book.lt k hk2; omega
  · rcases k3 _ hk with hk | hk
    · exact h.t1 hk
    · omega
  · rcases h.g1 i hk with h' | h'
    · exact .inr (.inl h')
    · omega
  · rcases k3 _ hk with hk | hk
    · exact h.g1 k hk
    · exact .inr (Nat.le_trans h.chg.size hk)
theorem Mid8.now (h : Mid8 w w0 sp cs t s kp bp F1 F2 G1 G2 T o) (n : Nat) : Mid8 w (w0.setCell ⟨sp, 0, none⟩ (.int .u64 (n : Int))) sp (cs.setIfInBounds 0 (.int .u64 (n : Int))) t { s with now := n } kp bp F1 F2 G1 G2 T o := by
  have hc := Chg.one w0 sp 0 (.int .u64 (n : Int))
  have hi := (Array.getElem?_eq_some_iff.1 h.st.at0).1
  refine ⟨⟨heap_set h.st.heap 0 _, by simp [hi], by have := h.st.at1; simpa using this, by have := h.st.at2; simpa using this, h.st.tree.keep hc (fun k hk e => h.st.out1 (e ▸ hk)), h.st.book.keep hc (fun k hk e => h.st.out2 (e ▸ hk)), h.st.out1, h.st.out2, h.st.apart⟩, hc.heap h.box h.t3, h.t1, h.t2, h.t3, h.chg.set (.inl rfl) 0 _, h.g1, h.g2⟩
theorem Mid8.done {cs0 : Array Value} (h : Mid8 w w0 sp cs t s kp bp F1 F2 G1 G2 T o) (hcs : cs = cs0.setIfInBounds 0 (.int .u64 (s.now : Int))) : Now8 w w0 sp cs0 t s kp bp F1 F2 := by
  subst hcs
  exact ⟨G1, G2, h.st, h.chg, h.g1, h.g2⟩
theorem Mid8.sees {now want sess ticks : Nat} {key : ByteArray} {k vv : Value} (h : Mid8 w w0 sp cs t s kp bp F1 F2 G1 G2 T (.cells #[k, .string key, vv, .int .u64 (want : Int), .int .u64 (sess : Int), .int .u64 (ticks : Int)] 39)) (hn : s.now = now) : Sees w0 sp kp bp T now key vv want sess ticks := by
  obtain ⟨a0, a1, a2, a3, a4, a5⟩ := cells6 h.box (Below.refl _ _)
  obtain ⟨z0, z1, z2, _⟩ := h.st.cell
  subst hn
  exact ⟨⟨z0, z1, z2⟩, a1, a2, a3, a4, a5⟩
end
-- DOS
-- BEGINopen
set_option maxHeartbeats 4000000 in
set_option maxRecDepth 100000 in
theorem do_open (s : St) (c : Cm) (vo : Option Addr) (vc : Nat) (sp kp bp : Nat) (cs : Array Value) (t : TypeId) (F1 F2 : List Nat) (w : World) (h : StAt w sp cs t s kp bp F1 F2) (hs : s.Wk) (hc : c.Fit) (hv : Bts w vo c.val) (hk : c.kind = 3) :
    Calls Tryz.prog 48 #[.pointer (some ⟨sp, 0, none⟩), .agg (c.cells vo vc)] w (Did8 w sp cs t (doS s c) kp bp F1 F2) := by
  have HD := Lib.hid (show doS s c = ({ s with last := (Ls.openL s.last s.l s.now c.ticks).2.1, l := (Ls.openL s.last s.l s.now c.ticks).2.2 }, (Ls.openL s.last s.l s.now c.ticks).1.1, [], (Ls.openL s.last s.l s.now c.ticks).1.2) by simp [doS, late, hk])
  obtain ⟨kind, key, val, want, sess, ticks⟩ := c
  have HC := Lib.hid hc
  have HV := Lib.hid hv
  dsimp only at hk
  subst hk
  have HR := Lib.hid (Run8.enter h (.cells (Cm.cells ⟨3, key, val, want, sess, ticks⟩ vo vc) 39))
  have HW := Lib.hid hs
  obtain ⟨now, hnow⟩ : ∃ now, s.now = now := ⟨_, rfl⟩
  have HN := Lib.hid hnow
  have hn40 : now ≤ 1099511627776 := hnow ▸ hs.now
  have hn64 : now < 18446744073709551616 := by omega
  clear h hs hnow hc hv
  dsimp only [Cm.cells] at *
  go_enter Tryz.func48, Tryz.ntmps48
  go_upto_region 1 with fail
  obtain ⟨a0, a1, a2, a3, a4, a5⟩ := cells6 HR.out.box (Below.refl _ _)
  generalize w.alloc (.cells #[.int .u8 ((3 : Nat) : Int), .string key, .slice vo val.length vc, .int .u64 (want : Int), .int .u64 (sess : Int), .int .u64 (ticks : Int)] 39) = wb at *
  generalize hT : w.heap.size = T at *
  go_quiet (fail)
  have HQ := Lib.hid (HR.out.drewN nq)
  obtain ⟨b0, b1, b2, b3, b4, b5⟩ := cells6 HQ.out.box (Below.refl _ _)
  generalize wb.drewN nq = w0 at *
  go_upto_region 12 with fail
  have HQd := Lib.hid HQ.out.drew
  have hS2 := HQd.out.sees HN.out
  unfold Sees at hS2
  go_region_held3 (fun wx => (wx.cell? ⟨sp, 0, none⟩ = some (.int .u64 (now : Int)) ∧ wx.cell? ⟨sp, 1, none⟩ = some (.pointer (some ⟨kp, 0, none⟩)) ∧ wx.cell? ⟨sp, 2, none⟩ = some (.pointer (some ⟨bp, 0, none⟩))) ∧
      wx.cell? ⟨T, 1, none⟩ = some (.string key) ∧ wx.cell? ⟨T, 2, none⟩ = some (.slice vo val.length vc) ∧ wx.cell? ⟨T, 3, none⟩ = some (.int .u64 (want : Int)) ∧ wx.cell? ⟨T, 4, none⟩ = some (.int .u64 (sess : Int)) ∧ wx.cell? ⟨T, 5, none⟩ = some (.int .u64 (ticks : Int)))
    (first | exact hS2 | exact hS3)
    (first | (go_at_call 82; (with_reducible refine (Ls.open_all bp s.last now ticks s.l F2 _ HQd.out.st.book HW.out.last hn64).mono ?_); rintro e w1 ⟨rfl, hw1⟩; have hS3 := HQd.out.sees' HN.out hw1.choose_spec.2.1 (fun k hk => .inr hk); unfold Sees at hS3; have H1 := Lib.hid hw1; clear hw1))
  go_wp2
  go_ret3
  obtain rfl := HN.out
  rw [HD.out]
  exact Did8.none' (n := (Ls.openL s.last s.l s.now ticks).1.1) rfl (Now8.book' HQd.out H1.out)
-- ENDopen
-- BEGINdelete
set_option maxHeartbeats 4000000 in
set_option maxRecDepth 100000 in
theorem do_delete (s : St) (c : Cm) (vo : Option Addr) (vc : Nat) (sp kp bp : Nat) (cs : Array Value) (t : TypeId) (F1 F2 : List Nat) (w : World) (h : StAt w sp cs t s kp bp F1 F2) (hs : s.Wk) (hc : c.Fit) (hv : Bts w vo c.val) (hk : c.kind = 2) :
    Calls Tryz.prog 48 #[.pointer (some ⟨sp, 0, none⟩), .agg (c.cells vo vc)] w (Did8 w sp cs t (doS s c) kp bp F1 F2) := by
  have HD := Lib.hid (show doS s c = ({ s with ps := (Tr.delP s.ps c.key c.want).1 }, 0, [], (Tr.delP s.ps c.key c.want).2) by simp [doS, late, hk])
  obtain ⟨kind, key, val, want, sess, ticks⟩ := c
  have HC := Lib.hid hc
  have HV := Lib.hid hv
  dsimp only at hk
  subst hk
  have HR := Lib.hid (Run8.enter h (.cells (Cm.cells ⟨2, key, val, want, sess, ticks⟩ vo vc) 39))
  have HW := Lib.hid hs
  obtain ⟨now, hnow⟩ : ∃ now, s.now = now := ⟨_, rfl⟩
  have HN := Lib.hid hnow
  have hn40 : now ≤ 1099511627776 := hnow ▸ hs.now
  have hn64 : now < 18446744073709551616 := by omega
  clear h hs hnow hc hv
  dsimp only [Cm.cells] at *
  go_enter Tryz.func48, Tryz.ntmps48
  go_upto_region 1 with fail
  obtain ⟨a0, a1, a2, a3, a4, a5⟩ := cells6 HR.out.box (Below.refl _ _)
  generalize w.alloc (.cells #[.int .u8 ((2 : Nat) : Int), .string key, .slice vo val.length vc, .int .u64 (want : Int), .int .u64 (sess : Int), .int .u64 (ticks : Int)] 39) = wb at *
  generalize hT : w.heap.size = T at *
  go_quiet (fail)
  have HQ := Lib.hid (HR.out.drewN nq)
  obtain ⟨b0, b1, b2, b3, b4, b5⟩ := cells6 HQ.out.box (Below.refl _ _)
  generalize wb.drewN nq = w0 at *
  go_upto_region 10 with fail
  have HQd := Lib.hid HQ.out.drew
  have hS2 := HQd.out.sees HN.out
  unfold Sees at hS2
  go_region_held3 (fun wx => (wx.cell? ⟨sp, 0, none⟩ = some (.int .u64 (now : Int)) ∧ wx.cell? ⟨sp, 1, none⟩ = some (.pointer (some ⟨kp, 0, none⟩)) ∧ wx.cell? ⟨sp, 2, none⟩ = some (.pointer (some ⟨bp, 0, none⟩))) ∧
      wx.cell? ⟨T, 1, none⟩ = some (.string key) ∧ wx.cell? ⟨T, 2, none⟩ = some (.slice vo val.length vc) ∧ wx.cell? ⟨T, 3, none⟩ = some (.int .u64 (want : Int)) ∧ wx.cell? ⟨T, 4, none⟩ = some (.int .u64 (sess : Int)) ∧ wx.cell? ⟨T, 5, none⟩ = some (.int .u64 (ticks : Int)))
    (first | exact hS2 | exact hS3)
    (first | (go_at_call 81; (with_reducible refine (Tr.delete_all kp s.ps F1 key want _ HQd.out.st.tree HW.out.fine).mono ?_); rintro e w1 ⟨rfl, hw1⟩; have hS3 := HQd.out.sees' HN.out hw1.choose_spec.2.1 (fun k hk => .inl hk); unfold Sees at hS3; have H1 := Lib.hid hw1; clear hw1))
  go_wp2
  go_ret3
  obtain rfl := HN.out
  rw [HD.out]
  exact Did8.none' (n := 0) rfl (Now8.tree' HQd.out H1.out)
-- ENDdelete
-- BEGINput_zero
set_option maxHeartbeats 4000000 in
set_option maxRecDepth 100000 in
theorem do_put_zero (s : St) (c : Cm) (vo : Option Addr) (vc : Nat) (sp kp bp : Nat) (cs : Array Value) (t : TypeId) (F1 F2 : List Nat) (w : World) (h : StAt w sp cs t s kp bp F1 F2) (hs : s.Wk) (hc : c.Fit) (hv : Bts w vo c.val) (hk : c.kind = 1) (h0 : c.sess = 0) :
    Calls Tryz.prog 48 #[.pointer (some ⟨sp, 0, none⟩), .agg (c.cells vo vc)] w (Did8 w sp cs t (doS s c) kp bp F1 F2) := by
  have HD := Lib.hid (show doS s c = ({ s with ps := (Tr.putP s.ps c.key c.val c.want c.sess).1 }, (Tr.putP s.ps c.key c.val c.want c.sess).2.1, [], (Tr.putP s.ps c.key c.val c.want c.sess).2.2) by simp [doS, late, hk, h0])
  obtain ⟨kind, key, val, want, sess, ticks⟩ := c
  have HC := Lib.hid hc
  have HV := Lib.hid hv
  dsimp only at hk h0
  subst hk
  have HR := Lib.hid (Run8.enter h (.cells (Cm.cells ⟨1, key, val, want, sess, ticks⟩ vo vc) 39))
  have HW := Lib.hid hs
  obtain ⟨now, hnow⟩ : ∃ now, s.now = now := ⟨_, rfl⟩
  have HN := Lib.hid hnow
  have hn40 : now ≤ 1099511627776 := hnow ▸ hs.now
  have hn64 : now < 18446744073709551616 := by omega
  have i0 : ((sess : Int) != 0) = false := by simp; omega
  clear h0
  clear h hs hnow hc hv
  dsimp only [Cm.cells] at *
  go_enter Tryz.func48, Tryz.ntmps48
  go_upto_region 1 with fail
  obtain ⟨a0, a1, a2, a3, a4, a5⟩ := cells6 HR.out.box (Below.refl _ _)
  generalize w.alloc (.cells #[.int .u8 ((1 : Nat) : Int), .string key, .slice vo val.length vc, .int .u64 (want : Int), .int .u64 (sess : Int), .int .u64 (ticks : Int)] 39) = wb at *
  generalize hT : w.heap.size = T at *
  go_quiet (fail)
  have HQ := Lib.hid (HR.out.drewN nq)
  obtain ⟨b0, b1, b2, b3, b4, b5⟩ := cells6 HQ.out.box (Below.refl _ _)
  generalize wb.drewN nq = w0 at *
  go_upto_region 8 with fail
  have HQd := Lib.hid HQ.out.drew
  have hS2 := HQd.out.sees HN.out
  unfold Sees at hS2
  go_region_held3 (fun wx => (wx.cell? ⟨sp, 0, none⟩ = some (.int .u64 (now : Int)) ∧ wx.cell? ⟨sp, 1, none⟩ = some (.pointer (some ⟨kp, 0, none⟩)) ∧ wx.cell? ⟨sp, 2, none⟩ = some (.pointer (some ⟨bp, 0, none⟩))) ∧
      wx.cell? ⟨T, 1, none⟩ = some (.string key) ∧ wx.cell? ⟨T, 2, none⟩ = some (.slice vo val.length vc) ∧ wx.cell? ⟨T, 3, none⟩ = some (.int .u64 (want : Int)) ∧ wx.cell? ⟨T, 4, none⟩ = some (.int .u64 (sess : Int)) ∧ wx.cell? ⟨T, 5, none⟩ = some (.int .u64 (ticks : Int)))
    (first | exact hS2 | exact hS3)
    (first | (go_at_call 80; (with_reducible refine (Tr.put_all kp s.ps F1 key vo val.length vc val want sess _ HQd.out.st.tree HW.out.fine (HV.out.below (hT ▸ HQd.out.below)) rfl HC.out.want).mono ?_); rintro e w1 ⟨rfl, hw1⟩; have hS3 := HQd.out.sees' HN.out hw1.choose_spec.2.1 (fun k hk => .inl hk); unfold Sees at hS3; have H1 := Lib.hid hw1; clear hw1))
  go_wp2
  go_ret3
  obtain rfl := HN.out
  rw [HD.out]
  exact Did8.none' (n := (Tr.putP s.ps key val want sess).2.1) rfl (Now8.tree' HQd.out H1.out)
-- ENDput_zero
-- BEGINput_live
set_option maxHeartbeats 4000000 in
set_option maxRecDepth 100000 in
theorem do_put_live (s : St) (c : Cm) (vo : Option Addr) (vc : Nat) (sp kp bp : Nat) (cs : Array Value) (t : TypeId) (F1 F2 : List Nat) (w : World) (h : StAt w sp cs t s kp bp F1 F2) (hs : s.Wk) (hc : c.Fit) (hv : Bts w vo c.val) (hk : c.kind = 1) (h0 : c.sess ≠ 0) (h1 : Ls.liveL s.l c.sess s.now = true) :
    Calls Tryz.prog 48 #[.pointer (some ⟨sp, 0, none⟩), .agg (c.cells vo vc)] w (Did8 w sp cs t (doS s c) kp bp F1 F2) := by
  have HD := Lib.hid (show doS s c = ({ s with ps := (Tr.putP s.ps c.key c.val c.want c.sess).1 }, (Tr.putP s.ps c.key c.val c.want c.sess).2.1, [], (Tr.putP s.ps c.key c.val c.want c.sess).2.2) by simp [doS, late, hk, h1])
  obtain ⟨kind, key, val, want, sess, ticks⟩ := c
  have HC := Lib.hid hc
  have HV := Lib.hid hv
  dsimp only at hk h0 h1
  subst hk
  have HR := Lib.hid (Run8.enter h (.cells (Cm.cells ⟨1, key, val, want, sess, ticks⟩ vo vc) 39))
  have HW := Lib.hid hs
  obtain ⟨now, hnow⟩ : ∃ now, s.now = now := ⟨_, rfl⟩
  have HN := Lib.hid hnow
  have hn40 : now ≤ 1099511627776 := hnow ▸ hs.now
  have hn64 : now < 18446744073709551616 := by omega
  have hl1000 : s.l.length ≤ 1000000 := Nat.le_trans hs.len (by decide)
  have i0 : ((sess : Int) != 0) = true := by simp; omega
  have i1 : ¬ ((sess : Int) = 0) := by omega
  rw [hnow] at h1
  have HLV := Lib.hid h1
  clear h1
  clear h hs hnow hc hv
  dsimp only [Cm.cells] at *
  go_enter Tryz.func48, Tryz.ntmps48
  go_upto_region 1 with fail
  obtain ⟨a0, a1, a2, a3, a4, a5⟩ := cells6 HR.out.box (Below.refl _ _)
  generalize w.alloc (.cells #[.int .u8 ((1 : Nat) : Int), .string key, .slice vo val.length vc, .int .u64 (want : Int), .int .u64 (sess : Int), .int .u64 (ticks : Int)] 39) = wb at *
  generalize hT : w.heap.size = T at *
  have HRd := Lib.hid HR.out.drew
  have hS0 := And.intro (show wb.drew.cell? ⟨T, 0, none⟩ = some (.int .u8 1) from a0) (HRd.out.sees HN.out)
  unfold Sees at hS0
  refine wp_region_held_drew (S := (fun wx => wx.cell? ⟨T, 0, none⟩ = some (.int .u8 1) ∧ (wx.cell? ⟨sp, 0, none⟩ = some (.int .u64 (now : Int)) ∧ wx.cell? ⟨sp, 1, none⟩ = some (.pointer (some ⟨kp, 0, none⟩)) ∧ wx.cell? ⟨sp, 2, none⟩ = some (.pointer (some ⟨bp, 0, none⟩))) ∧
      wx.cell? ⟨T, 1, none⟩ = some (.string key) ∧ wx.cell? ⟨T, 2, none⟩ = some (.slice vo val.length vc) ∧ wx.cell? ⟨T, 3, none⟩ = some (.int .u64 (want : Int)) ∧ wx.cell? ⟨T, 4, none⟩ = some (.int .u64 (sess : Int)) ∧ wx.cell? ⟨T, 5, none⟩ = some (.int .u64 (ticks : Int)))) (by kernel_rfl) hS0 (fun hHeld => ?_)
  refine wpAnyH_take (i := 0) (oi := { dst := some 12, op := Op.fieldAddr 39 (Operand.tmp 3) 0, type := 0, pos := "meta.go:41", after := #[], guard := none }) (v := ?v0) rfl (by kernel_rfl) (by kernel_rfl) (by kernel_rfl) (fun _ _ _ h => h) (Or.inl ⟨by rfl, ?hy0⟩) (by assumption) ?rest0
  case hy0 => (intro w hSw; (try dsimp only at hSw); go_simp; all_goals (with_reducible rfl))
  (try simp only [Act.put, List.setIfInBounds_toArray, List.set_cons_zero, List.set_cons_succ])
  refine wpAnyH_take (i := 1) (oi := { dst := some 13, op := Op.load 37 (Operand.tmp 12), type := 37, pos := "meta.go:41", after := #[{ on := 0, ground := Ground.data }], guard := none }) (v := ?v1) rfl (by kernel_rfl) (by kernel_rfl) (by kernel_rfl) (fun _ _ _ h => h) (Or.inl ⟨by rfl, ?hy1⟩) (by assumption) ?rest1
  case hy1 => (intro w hSw; (try dsimp only at hSw); go_simp; all_goals (with_reducible rfl))
  (try simp only [Act.put, List.setIfInBounds_toArray, List.set_cons_zero, List.set_cons_succ])
  refine wpAnyH_take (i := 2) (oi := { dst := some 14, op := Op.binOp BinOp.eql 37 (Operand.tmp 13) (Operand.const (Value.int IntKind.u8 1)) 37, type := 4, pos := "meta.go:41", after := #[{ on := 1, ground := Ground.data }], guard := none }) (v := ?v2) rfl (by kernel_rfl) (by kernel_rfl) (by kernel_rfl) (fun _ _ _ h => h) (Or.inl ⟨by rfl, ?hy2⟩) (by assumption) ?rest2
  case hy2 => (intro w hSw; (try dsimp only at hSw); go_simp; all_goals (with_reducible rfl))
  (try simp only [Act.put, List.setIfInBounds_toArray, List.set_cons_zero, List.set_cons_succ])
  refine wpAnyH_take (i := 3) (oi := { dst := some 15, op := Op.move (Operand.tmp 14), type := 4, pos := "meta.go:41", after := #[{ on := 2, ground := Ground.data }], guard := none }) (v := ?v3) rfl (by kernel_rfl) (by kernel_rfl) (by kernel_rfl) (fun _ _ _ h => h) (Or.inl ⟨by rfl, ?hy3⟩) (by assumption) ?rest3
  case hy3 => (intro w hSw; (try dsimp only at hSw); go_simp; all_goals (with_reducible rfl))
  (try simp only [Act.put, List.setIfInBounds_toArray, List.set_cons_zero, List.set_cons_succ])
  refine wpAnyH_take (i := 4) (oi := { dst := some 16, op := Op.fieldAddr 39 (Operand.tmp 3) 0, type := 0, pos := "meta.go:41", after := #[{ on := 3, ground := Ground.guard }], guard := some (3, false) }) (v := undef) rfl (by kernel_rfl) (by kernel_rfl) (by kernel_rfl) (fun _ _ _ h => h) (Or.inr ⟨by rfl, rfl⟩) (by assumption) ?_
  (try simp only [Act.put, List.setIfInBounds_toArray, List.set_cons_zero, List.set_cons_succ])
  refine wpAnyH_take (i := 5) (oi := { dst := some 17, op := Op.load 37 (Operand.tmp 16), type := 37, pos := "meta.go:41", after := #[{ on := 4, ground := Ground.data }, { on := 3, ground := Ground.guard }], guard := some (3, false) }) (v := undef) rfl (by kernel_rfl) (by kernel_rfl) (by kernel_rfl) (fun _ _ _ h => h) (Or.inr ⟨by rfl, rfl⟩) (by assumption) ?_
  (try simp only [Act.put, List.setIfInBounds_toArray, List.set_cons_zero, List.set_cons_succ])
  refine wpAnyH_take (i := 6) (oi := { dst := some 18, op := Op.binOp BinOp.eql 37 (Operand.tmp 17) (Operand.const (Value.int IntKind.u8 4)) 37, type := 4, pos := "meta.go:41", after := #[{ on := 5, ground := Ground.data }, { on := 3, ground := Ground.guard }], guard := some (3, false) }) (v := undef) rfl (by kernel_rfl) (by kernel_rfl) (by kernel_rfl) (fun _ _ _ h => h) (Or.inr ⟨by rfl, rfl⟩) (by assumption) ?_
  (try simp only [Act.put, List.setIfInBounds_toArray, List.set_cons_zero, List.set_cons_succ])
  refine wpAnyH_take (i := 7) (oi := { dst := some 19, op := Op.pick (Operand.tmp 15) (Operand.const (Value.bool true)) (Operand.tmp 18), type := 4, pos := "meta.go:41", after := #[{ on := 3, ground := Ground.data }, { on := 6, ground := Ground.data }], guard := none }) (v := ?v7) rfl (by kernel_rfl) (by kernel_rfl) (by kernel_rfl) (fun _ _ _ h => h) (Or.inl ⟨by rfl, ?hy7⟩) (by assumption) ?rest7
  case hy7 => (intro w hSw; (try dsimp only at hSw); go_simp; all_goals (with_reducible rfl))
  (try simp only [Act.put, List.setIfInBounds_toArray, List.set_cons_zero, List.set_cons_succ])
  refine wpAnyH_take (i := 8) (oi := { dst := some 20, op := Op.move (Operand.tmp 19), type := 4, pos := "meta.go:41", after := #[{ on := 7, ground := Ground.data }, { on := 3, ground := Ground.chain }], guard := none }) (v := ?v8) rfl (by kernel_rfl) (by kernel_rfl) (by kernel_rfl) (fun _ _ _ h => h) (Or.inl ⟨by rfl, ?hy8⟩) (by assumption) ?rest8
  case hy8 => (intro w hSw; (try dsimp only at hSw); go_simp; all_goals (with_reducible rfl))
  (try simp only [Act.put, List.setIfInBounds_toArray, List.set_cons_zero, List.set_cons_succ])
  refine wpAnyH_take (i := 9) (oi := { dst := some 21, op := Op.fieldAddr 39 (Operand.tmp 3) 4, type := 0, pos := "meta.go:41", after := #[{ on := 8, ground := Ground.guard }], guard := some (8, true) }) (v := ?v9) rfl (by kernel_rfl) (by kernel_rfl) (by kernel_rfl) (fun _ _ _ h => h) (Or.inl ⟨by rfl, ?hy9⟩) (by assumption) ?rest9
  case hy9 => (intro w hSw; (try dsimp only at hSw); go_simp; all_goals (with_reducible rfl))
  (try simp only [Act.put, List.setIfInBounds_toArray, List.set_cons_zero, List.set_cons_succ])
  refine wpAnyH_take (i := 10) (oi := { dst := some 22, op := Op.load 28 (Operand.tmp 21), type := 28, pos := "meta.go:41", after := #[{ on := 9, ground := Ground.data }, { on := 8, ground := Ground.guard }], guard := some (8, true) }) (v := ?v10) rfl (by kernel_rfl) (by kernel_rfl) (by kernel_rfl) (fun _ _ _ h => h) (Or.inl ⟨by rfl, ?hy10⟩) (by assumption) ?rest10
  case hy10 => (intro w hSw; (try dsimp only at hSw); go_simp; all_goals (with_reducible rfl))
  (try simp only [Act.put, List.setIfInBounds_toArray, List.set_cons_zero, List.set_cons_succ])
  refine wpAnyH_take (i := 11) (oi := { dst := some 23, op := Op.binOp BinOp.neq 28 (Operand.tmp 22) (Operand.const (Value.int IntKind.u64 0)) 28, type := 4, pos := "meta.go:41", after := #[{ on := 10, ground := Ground.data }, { on := 8, ground := Ground.guard }], guard := some (8, true) }) (v := ?v11) rfl (by kernel_rfl) (by kernel_rfl) (by kernel_rfl) (fun _ _ _ h => h) (Or.inl ⟨by rfl, ?hy11⟩) (by assumption) ?rest11
  case hy11 => (intro w hSw; (try dsimp only at hSw); go_simp; all_goals (with_reducible rfl))
  (try simp only [Act.put, List.setIfInBounds_toArray, List.set_cons_zero, List.set_cons_succ])
  refine wpAnyH_take (i := 12) (oi := { dst := some 24, op := Op.pick (Operand.tmp 20) (Operand.tmp 23) (Operand.const (Value.bool false)), type := 4, pos := "meta.go:41", after := #[{ on := 8, ground := Ground.data }, { on := 11, ground := Ground.data }], guard := none }) (v := ?v12) rfl (by kernel_rfl) (by kernel_rfl) (by kernel_rfl) (fun _ _ _ h => h) (Or.inl ⟨by rfl, ?hy12⟩) (by assumption) ?rest12
  case hy12 => (intro w hSw; (try dsimp only at hSw); go_simp; all_goals (with_reducible rfl))
  (try simp only [Act.put, List.setIfInBounds_toArray, List.set_cons_zero, List.set_cons_succ])
  refine wpAnyH_take (i := 13) (oi := { dst := some 25, op := Op.move (Operand.tmp 24), type := 4, pos := "meta.go:41", after := #[{ on := 12, ground := Ground.data }, { on := 8, ground := Ground.chain }], guard := none }) (v := ?v13) rfl (by kernel_rfl) (by kernel_rfl) (by kernel_rfl) (fun _ _ _ h => h) (Or.inl ⟨by rfl, ?hy13⟩) (by assumption) ?rest13
  case hy13 => (intro w hSw; (try dsimp only at hSw); go_simp; all_goals (with_reducible rfl))
  (try simp only [Act.put, List.setIfInBounds_toArray, List.set_cons_zero, List.set_cons_succ])
  refine wpAnyH_take (i := 14) (oi := { dst := some 26, op := Op.move (Operand.tmp 0), type := 134, pos := "meta.go:41", after := #[{ on := 13, ground := Ground.guard }], guard := some (13, true) }) (v := ?v14) rfl (by kernel_rfl) (by kernel_rfl) (by kernel_rfl) (fun _ _ _ h => h) (Or.inl ⟨by rfl, ?hy14⟩) (by assumption) ?rest14
  case hy14 => (intro w hSw; (try dsimp only at hSw); go_simp; all_goals (with_reducible rfl))
  (try simp only [Act.put, List.setIfInBounds_toArray, List.set_cons_zero, List.set_cons_succ])
  refine wpAnyH_take (i := 15) (oi := { dst := some 27, op := Op.nilCheck (Operand.tmp 26), type := 0, pos := "meta.go:41", after := #[{ on := 14, ground := Ground.data }, { on := 13, ground := Ground.guard }], guard := some (13, true) }) (v := ?v15) rfl (by kernel_rfl) (by kernel_rfl) (by kernel_rfl) (fun _ _ _ h => h) (Or.inl ⟨by rfl, ?hy15⟩) (by assumption) ?rest15
  case hy15 => (intro w hSw; (try dsimp only at hSw); go_simp; all_goals (with_reducible rfl))
  (try simp only [Act.put, List.setIfInBounds_toArray, List.set_cons_zero, List.set_cons_succ])
  refine wpAnyH_take (i := 16) (oi := { dst := some 28, op := Op.fieldAddr 109 (Operand.tmp 27) 2, type := 0, pos := "meta.go:41", after := #[{ on := 15, ground := Ground.data }, { on := 13, ground := Ground.guard }], guard := some (13, true) }) (v := ?v16) rfl (by kernel_rfl) (by kernel_rfl) (by kernel_rfl) (fun _ _ _ h => h) (Or.inl ⟨by rfl, ?hy16⟩) (by assumption) ?rest16
  case hy16 => (intro w hSw; (try dsimp only at hSw); go_simp; all_goals (with_reducible rfl))
  (try simp only [Act.put, List.setIfInBounds_toArray, List.set_cons_zero, List.set_cons_succ])
  refine wpAnyH_take (i := 17) (oi := { dst := some 29, op := Op.load 107 (Operand.tmp 28), type := 107, pos := "meta.go:41", after := #[{ on := 16, ground := Ground.data }, { on := 13, ground := Ground.guard }], guard := some (13, true) }) (v := ?v17) rfl (by kernel_rfl) (by kernel_rfl) (by kernel_rfl) (fun _ _ _ h => h) (Or.inl ⟨by rfl, ?hy17⟩) (by assumption) ?rest17
  case hy17 => (intro w hSw; (try dsimp only at hSw); go_simp; all_goals (with_reducible rfl))
  (try simp only [Act.put, List.setIfInBounds_toArray, List.set_cons_zero, List.set_cons_succ])
  refine wpAnyH_take (i := 18) (oi := { dst := some 30, op := Op.fieldAddr 39 (Operand.tmp 3) 4, type := 0, pos := "meta.go:41", after := #[{ on := 13, ground := Ground.guard }], guard := some (13, true) }) (v := ?v18) rfl (by kernel_rfl) (by kernel_rfl) (by kernel_rfl) (fun _ _ _ h => h) (Or.inl ⟨by rfl, ?hy18⟩) (by assumption) ?rest18
  case hy18 => (intro w hSw; (try dsimp only at hSw); go_simp; all_goals (with_reducible rfl))
  (try simp only [Act.put, List.setIfInBounds_toArray, List.set_cons_zero, List.set_cons_succ])
  refine wpAnyH_take (i := 19) (oi := { dst := some 31, op := Op.load 28 (Operand.tmp 30), type := 28, pos := "meta.go:41", after := #[{ on := 18, ground := Ground.data }, { on := 13, ground := Ground.guard }], guard := some (13, true) }) (v := ?v19) rfl (by kernel_rfl) (by kernel_rfl) (by kernel_rfl) (fun _ _ _ h => h) (Or.inl ⟨by rfl, ?hy19⟩) (by assumption) ?rest19
  case hy19 => (intro w hSw; (try dsimp only at hSw); go_simp; all_goals (with_reducible rfl))
  (try simp only [Act.put, List.setIfInBounds_toArray, List.set_cons_zero, List.set_cons_succ])
  refine wpAnyH_take (i := 20) (oi := { dst := some 32, op := Op.move (Operand.tmp 0), type := 134, pos := "meta.go:41", after := #[{ on := 13, ground := Ground.guard }], guard := some (13, true) }) (v := ?v20) rfl (by kernel_rfl) (by kernel_rfl) (by kernel_rfl) (fun _ _ _ h => h) (Or.inl ⟨by rfl, ?hy20⟩) (by assumption) ?rest20
  case hy20 => (intro w hSw; (try dsimp only at hSw); go_simp; all_goals (with_reducible rfl))
  (try simp only [Act.put, List.setIfInBounds_toArray, List.set_cons_zero, List.set_cons_succ])
  refine wpAnyH_take (i := 21) (oi := { dst := some 33, op := Op.nilCheck (Operand.tmp 32), type := 0, pos := "meta.go:41", after := #[{ on := 20, ground := Ground.data }, { on := 13, ground := Ground.guard }], guard := some (13, true) }) (v := ?v21) rfl (by kernel_rfl) (by kernel_rfl) (by kernel_rfl) (fun _ _ _ h => h) (Or.inl ⟨by rfl, ?hy21⟩) (by assumption) ?rest21
  case hy21 => (intro w hSw; (try dsimp only at hSw); go_simp; all_goals (with_reducible rfl))
  (try simp only [Act.put, List.setIfInBounds_toArray, List.set_cons_zero, List.set_cons_succ])
  refine wpAnyH_take (i := 22) (oi := { dst := some 34, op := Op.fieldAddr 109 (Operand.tmp 33) 0, type := 0, pos := "meta.go:41", after := #[{ on := 21, ground := Ground.data }, { on := 13, ground := Ground.guard }], guard := some (13, true) }) (v := ?v22) rfl (by kernel_rfl) (by kernel_rfl) (by kernel_rfl) (fun _ _ _ h => h) (Or.inl ⟨by rfl, ?hy22⟩) (by assumption) ?rest22
  case hy22 => (intro w hSw; (try dsimp only at hSw); go_simp; all_goals (with_reducible rfl))
  (try simp only [Act.put, List.setIfInBounds_toArray, List.set_cons_zero, List.set_cons_succ])
  refine wpAnyH_take (i := 23) (oi := { dst := some 35, op := Op.load 28 (Operand.tmp 34), type := 28, pos := "meta.go:41", after := #[{ on := 22, ground := Ground.data }, { on := 13, ground := Ground.guard }], guard := some (13, true) }) (v := ?v23) rfl (by kernel_rfl) (by kernel_rfl) (by kernel_rfl) (fun _ _ _ h => h) (Or.inl ⟨by rfl, ?hy23⟩) (by assumption) ?rest23
  case hy23 => (intro w hSw; (try dsimp only at hSw); go_simp; all_goals (with_reducible rfl))
  (try simp only [Act.put, List.setIfInBounds_toArray, List.set_cons_zero, List.set_cons_succ])
  refine wpAnyH_ready (rs := [24]) (by kernel_rfl) (by simp) ?_
  refine AllReadyH.cons (o := { dst := some 36, op := Op.call { callee := Callee.value (Operand.func 79), args := #[Operand.tmp 29, Operand.tmp 31, Operand.tmp 35], argTypes := #[107, 28, 28] }, type := 4, pos := "meta.go:41", after := #[{ on := 17, ground := Ground.data }, { on := 19, ground := Ground.data }, { on := 23, ground := Ground.data }, { on := 13, ground := Ground.chain }, { on := 13, ground := Ground.guard }], guard := some (13, true) }) rfl (fun K hK => ?_) AllReadyH.nil
  go_simp
  go_at_call 79
  (with_reducible refine (Ls.live_any bp s.last sess now s.l F2 _ HRd.out.st.book hl1000).mono ?_)
  rintro e w0 ⟨rfl, hb0⟩
  rw [HLV.out]
  have hq := HRd.out.stays hb0
  have hS1 := And.intro (cells6 hq.box (Below.refl _ _)).1 (hq.sees HN.out)
  unfold Sees at hS1
  have HQ := Lib.hid hq
  clear hb0 hq
  go_wp2_with fail
  refine hK.out _ _ hS1 (fun hHeld => ?_)
  clear hK K
  (try simp only [Act.put, List.setIfInBounds_toArray, List.set_cons_zero, List.set_cons_succ])
  refine wpAnyH_take (i := 25) (oi := { dst := some 37, op := Op.unOp UnOp.not 4 (Operand.tmp 36), type := 4, pos := "meta.go:41", after := #[{ on := 24, ground := Ground.data }, { on := 13, ground := Ground.guard }], guard := some (13, true) }) (v := ?v25) rfl (by kernel_rfl) (by kernel_rfl) (by kernel_rfl) (fun _ _ _ h => h) (Or.inl ⟨by rfl, ?hy25⟩) (by assumption) ?rest25
  case hy25 => (intro w hSw; (try dsimp only at hSw); go_simp; all_goals (with_reducible rfl))
  (try simp only [Act.put, List.setIfInBounds_toArray, List.set_cons_zero, List.set_cons_succ])
  refine wpAnyH_take (i := 26) (oi := { dst := some 38, op := Op.pick (Operand.tmp 25) (Operand.tmp 37) (Operand.const (Value.bool false)), type := 4, pos := "meta.go:41", after := #[{ on := 13, ground := Ground.data }, { on := 25, ground := Ground.data }], guard := none }) (v := ?v26) rfl (by kernel_rfl) (by kernel_rfl) (by kernel_rfl) (fun _ _ _ h => h) (Or.inl ⟨by rfl, ?hy26⟩) (by assumption) ?rest26
  case hy26 => (intro w hSw; (try dsimp only at hSw); go_simp; all_goals (with_reducible rfl))
  (try simp only [Act.put, List.setIfInBounds_toArray, List.set_cons_zero, List.set_cons_succ])
  refine wpAnyH_done (by kernel_rfl) ?_ _
  obtain ⟨b0, b1, b2, b3, b4, b5⟩ := cells6 HQ.out.box (Below.refl _ _)
  go_upto_region 8 with fail
  have HQd := Lib.hid HQ.out.drew
  have hS2 := HQd.out.sees HN.out
  unfold Sees at hS2
  go_region_held3 (fun wx => (wx.cell? ⟨sp, 0, none⟩ = some (.int .u64 (now : Int)) ∧ wx.cell? ⟨sp, 1, none⟩ = some (.pointer (some ⟨kp, 0, none⟩)) ∧ wx.cell? ⟨sp, 2, none⟩ = some (.pointer (some ⟨bp, 0, none⟩))) ∧
      wx.cell? ⟨T, 1, none⟩ = some (.string key) ∧ wx.cell? ⟨T, 2, none⟩ = some (.slice vo val.length vc) ∧ wx.cell? ⟨T, 3, none⟩ = some (.int .u64 (want : Int)) ∧ wx.cell? ⟨T, 4, none⟩ = some (.int .u64 (sess : Int)) ∧ wx.cell? ⟨T, 5, none⟩ = some (.int .u64 (ticks : Int)))
    (first | exact hS2 | exact hS3)
    (first | (go_at_call 80; (with_reducible refine (Tr.put_all kp s.ps F1 key vo val.length vc val want sess _ HQd.out.st.tree HW.out.fine (HV.out.below (hT ▸ HQd.out.below)) rfl HC.out.want).mono ?_); rintro e w1 ⟨rfl, hw1⟩; have hS3 := HQd.out.sees' HN.out hw1.choose_spec.2.1 (fun k hk => .inl hk); unfold Sees at hS3; have H1 := Lib.hid hw1; clear hw1))
  go_wp2
  go_ret3
  obtain rfl := HN.out
  rw [HD.out]
  exact Did8.none' (n := (Tr.putP s.ps key val want sess).2.1) rfl (Now8.tree' HQd.out H1.out)
-- ENDput_live
-- BEGINrenew_zero
set_option maxHeartbeats 4000000 in
set_option maxRecDepth 100000 in
theorem do_renew_zero (s : St) (c : Cm) (vo : Option Addr) (vc : Nat) (sp kp bp : Nat) (cs : Array Value) (t : TypeId) (F1 F2 : List Nat) (w : World) (h : StAt w sp cs t s kp bp F1 F2) (hs : s.Wk) (hc : c.Fit) (hv : Bts w vo c.val) (hk : c.kind = 4) (h0 : c.sess = 0) :
    Calls Tryz.prog 48 #[.pointer (some ⟨sp, 0, none⟩), .agg (c.cells vo vc)] w (Did8 w sp cs t (doS s c) kp bp F1 F2) := by
  have HD := Lib.hid (show doS s c = ({ s with l := (Ls.renewL s.l c.sess s.now).1 }, 0, [], (Ls.renewL s.l c.sess s.now).2) by simp [doS, late, hk, h0])
  obtain ⟨kind, key, val, want, sess, ticks⟩ := c
  have HC := Lib.hid hc
  have HV := Lib.hid hv
  dsimp only at hk h0
  subst hk
  have HR := Lib.hid (Run8.enter h (.cells (Cm.cells ⟨4, key, val, want, sess, ticks⟩ vo vc) 39))
  have HW := Lib.hid hs
  obtain ⟨now, hnow⟩ : ∃ now, s.now = now := ⟨_, rfl⟩
  have HN := Lib.hid hnow
  have hn40 : now ≤ 1099511627776 := hnow ▸ hs.now
  have hn64 : now < 18446744073709551616 := by omega
  have i0 : ((sess : Int) != 0) = false := by simp; omega
  clear h0
  have hl1000 : s.l.length ≤ 1000000 := Nat.le_trans hs.len (by decide)
  clear h hs hnow hc hv
  dsimp only [Cm.cells] at *
  go_enter Tryz.func48, Tryz.ntmps48
  go_upto_region 1 with fail
  obtain ⟨a0, a1, a2, a3, a4, a5⟩ := cells6 HR.out.box (Below.refl _ _)
  generalize w.alloc (.cells #[.int .u8 ((4 : Nat) : Int), .string key, .slice vo val.length vc, .int .u64 (want : Int), .int .u64 (sess : Int), .int .u64 (ticks : Int)] 39) = wb at *
  generalize hT : w.heap.size = T at *
  go_quiet (fail)
  have HQ := Lib.hid (HR.out.drewN nq)
  obtain ⟨b0, b1, b2, b3, b4, b5⟩ := cells6 HQ.out.box (Below.refl _ _)
  generalize wb.drewN nq = w0 at *
  go_upto_region 14 with fail
  have HQd := Lib.hid HQ.out.drew
  have hS2 := HQd.out.sees HN.out
  unfold Sees at hS2
  go_region_held3 (fun wx => (wx.cell? ⟨sp, 0, none⟩ = some (.int .u64 (now : Int)) ∧ wx.cell? ⟨sp, 1, none⟩ = some (.pointer (some ⟨kp, 0, none⟩)) ∧ wx.cell? ⟨sp, 2, none⟩ = some (.pointer (some ⟨bp, 0, none⟩))) ∧
      wx.cell? ⟨T, 1, none⟩ = some (.string key) ∧ wx.cell? ⟨T, 2, none⟩ = some (.slice vo val.length vc) ∧ wx.cell? ⟨T, 3, none⟩ = some (.int .u64 (want : Int)) ∧ wx.cell? ⟨T, 4, none⟩ = some (.int .u64 (sess : Int)) ∧ wx.cell? ⟨T, 5, none⟩ = some (.int .u64 (ticks : Int)))
    (first | exact hS2 | exact hS3)
    (first | (go_at_call 83; (with_reducible refine (Ls.renew_any bp s.last sess now s.l F2 _ HQd.out.st.book hl1000 hn64 HW.out.life).mono ?_); rintro e w1 ⟨rfl, hw1⟩; have hS3 := HQd.out.sees' HN.out hw1.choose_spec.2.1 (fun k hk => .inr hk); unfold Sees at hS3; have H1 := Lib.hid hw1; clear hw1))
  go_wp2
  go_ret3
  obtain rfl := HN.out
  rw [HD.out]
  exact Did8.none' (n := 0) rfl (Now8.book' HQd.out H1.out)
-- ENDrenew_zero
-- BEGINrenew_live
set_option maxHeartbeats 4000000 in
set_option maxRecDepth 100000 in
theorem do_renew_live (s : St) (c : Cm) (vo : Option Addr) (vc : Nat) (sp kp bp : Nat) (cs : Array Value) (t : TypeId) (F1 F2 : List Nat) (w : World) (h : StAt w sp cs t s kp bp F1 F2) (hs : s.Wk) (hc : c.Fit) (hv : Bts w vo c.val) (hk : c.kind = 4) (h0 : c.sess ≠ 0) (h1 : Ls.liveL s.l c.sess s.now = true) :
    Calls Tryz.prog 48 #[.pointer (some ⟨sp, 0, none⟩), .agg (c.cells vo vc)] w (Did8 w sp cs t (doS s c) kp bp F1 F2) := by
  have HD := Lib.hid (show doS s c = ({ s with l := (Ls.renewL s.l c.sess s.now).1 }, 0, [], (Ls.renewL s.l c.sess s.now).2) by simp [doS, late, hk, h1])
  obtain ⟨kind, key, val, want, sess, ticks⟩ := c
  have HC := Lib.hid hc
  have HV := Lib.hid hv
  dsimp only at hk h0 h1
  subst hk
  have HR := Lib.hid (Run8.enter h (.cells (Cm.cells ⟨4, key, val, want, sess, ticks⟩ vo vc) 39))
  have HW := Lib.hid hs
  obtain ⟨now, hnow⟩ : ∃ now, s.now = now := ⟨_, rfl⟩
  have HN := Lib.hid hnow
  have hn40 : now ≤ 1099511627776 := hnow ▸ hs.now
  have hn64 : now < 18446744073709551616 := by omega
  have hl1000 : s.l.length ≤ 1000000 := Nat.le_trans hs.len (by decide)
  have i0 : ((sess : Int) != 0) = true := by simp; omega
  have i1 : ¬ ((sess : Int) = 0) := by omega
  rw [hnow] at h1
  have HLV := Lib.hid h1
  clear h1
  clear h hs hnow hc hv
  dsimp only [Cm.cells] at *
  go_enter Tryz.func48, Tryz.ntmps48
  go_upto_region 1 with fail
  obtain ⟨a0, a1, a2, a3, a4, a5⟩ := cells6 HR.out.box (Below.refl _ _)
  generalize w.alloc (.cells #[.int .u8 ((4 : Nat) : Int), .string key, .slice vo val.length vc, .int .u64 (want : Int), .int .u64 (sess : Int), .int .u64 (ticks : Int)] 39) = wb at *
  generalize hT : w.heap.size = T at *
  have HRd := Lib.hid HR.out.drew
  have hS0 := And.intro (show wb.drew.cell? ⟨T, 0, none⟩ = some (.int .u8 4) from a0) (HRd.out.sees HN.out)
  unfold Sees at hS0
  refine wp_region_held_drew (S := (fun wx => wx.cell? ⟨T, 0, none⟩ = some (.int .u8 4) ∧ (wx.cell? ⟨sp, 0, none⟩ = some (.int .u64 (now : Int)) ∧ wx.cell? ⟨sp, 1, none⟩ = some (.pointer (some ⟨kp, 0, none⟩)) ∧ wx.cell? ⟨sp, 2, none⟩ = some (.pointer (some ⟨bp, 0, none⟩))) ∧
      wx.cell? ⟨T, 1, none⟩ = some (.string key) ∧ wx.cell? ⟨T, 2, none⟩ = some (.slice vo val.length vc) ∧ wx.cell? ⟨T, 3, none⟩ = some (.int .u64 (want : Int)) ∧ wx.cell? ⟨T, 4, none⟩ = some (.int .u64 (sess : Int)) ∧ wx.cell? ⟨T, 5, none⟩ = some (.int .u64 (ticks : Int)))) (by kernel_rfl) hS0 (fun hHeld => ?_)
  refine wpAnyH_take (i := 0) (oi := { dst := some 12, op := Op.fieldAddr 39 (Operand.tmp 3) 0, type := 0, pos := "meta.go:41", after := #[], guard := none }) (v := ?v0) rfl (by kernel_rfl) (by kernel_rfl) (by kernel_rfl) (fun _ _ _ h => h) (Or.inl ⟨by rfl, ?hy0⟩) (by assumption) ?rest0
  case hy0 => (intro w hSw; (try dsimp only at hSw); go_simp; all_goals (with_reducible rfl))
  (try simp only [Act.put, List.setIfInBounds_toArray, List.set_cons_zero, List.set_cons_succ])
  refine wpAnyH_take (i := 1) (oi := { dst := some 13, op := Op.load 37 (Operand.tmp 12), type := 37, pos := "meta.go:41", after := #[{ on := 0, ground := Ground.data }], guard := none }) (v := ?v1) rfl (by kernel_rfl) (by kernel_rfl) (by kernel_rfl) (fun _ _ _ h => h) (Or.inl ⟨by rfl, ?hy1⟩) (by assumption) ?rest1
  case hy1 => (intro w hSw; (try dsimp only at hSw); go_simp; all_goals (with_reducible rfl))
  (try simp only [Act.put, List.setIfInBounds_toArray, List.set_cons_zero, List.set_cons_succ])
  refine wpAnyH_take (i := 2) (oi := { dst := some 14, op := Op.binOp BinOp.eql 37 (Operand.tmp 13) (Operand.const (Value.int IntKind.u8 1)) 37, type := 4, pos := "meta.go:41", after := #[{ on := 1, ground := Ground.data }], guard := none }) (v := ?v2) rfl (by kernel_rfl) (by kernel_rfl) (by kernel_rfl) (fun _ _ _ h => h) (Or.inl ⟨by rfl, ?hy2⟩) (by assumption) ?rest2
  case hy2 => (intro w hSw; (try dsimp only at hSw); go_simp; all_goals (with_reducible rfl))
  (try simp only [Act.put, List.setIfInBounds_toArray, List.set_cons_zero, List.set_cons_succ])
  refine wpAnyH_take (i := 3) (oi := { dst := some 15, op := Op.move (Operand.tmp 14), type := 4, pos := "meta.go:41", after := #[{ on := 2, ground := Ground.data }], guard := none }) (v := ?v3) rfl (by kernel_rfl) (by kernel_rfl) (by kernel_rfl) (fun _ _ _ h => h) (Or.inl ⟨by rfl, ?hy3⟩) (by assumption) ?rest3
  case hy3 => (intro w hSw; (try dsimp only at hSw); go_simp; all_goals (with_reducible rfl))
  (try simp only [Act.put, List.setIfInBounds_toArray, List.set_cons_zero, List.set_cons_succ])
  refine wpAnyH_take (i := 4) (oi := { dst := some 16, op := Op.fieldAddr 39 (Operand.tmp 3) 0, type := 0, pos := "meta.go:41", after := #[{ on := 3, ground := Ground.guard }], guard := some (3, false) }) (v := ?v4) rfl (by kernel_rfl) (by kernel_rfl) (by kernel_rfl) (fun _ _ _ h => h) (Or.inl ⟨by rfl, ?hy4⟩) (by assumption) ?rest4
  case hy4 => (intro w hSw; (try dsimp only at hSw); go_simp; all_goals (with_reducible rfl))
  (try simp only [Act.put, List.setIfInBounds_toArray, List.set_cons_zero, List.set_cons_succ])
  refine wpAnyH_take (i := 5) (oi := { dst := some 17, op := Op.load 37 (Operand.tmp 16), type := 37, pos := "meta.go:41", after := #[{ on := 4, ground := Ground.data }, { on := 3, ground := Ground.guard }], guard := some (3, false) }) (v := ?v5) rfl (by kernel_rfl) (by kernel_rfl) (by kernel_rfl) (fun _ _ _ h => h) (Or.inl ⟨by rfl, ?hy5⟩) (by assumption) ?rest5
  case hy5 => (intro w hSw; (try dsimp only at hSw); go_simp; all_goals (with_reducible rfl))
  (try simp only [Act.put, List.setIfInBounds_toArray, List.set_cons_zero, List.set_cons_succ])
  refine wpAnyH_take (i := 6) (oi := { dst := some 18, op := Op.binOp BinOp.eql 37 (Operand.tmp 17) (Operand.const (Value.int IntKind.u8 4)) 37, type := 4, pos := "meta.go:41", after := #[{ on := 5, ground := Ground.data }, { on := 3, ground := Ground.guard }], guard := some (3, false) }) (v := ?v6) rfl (by kernel_rfl) (by kernel_rfl) (by kernel_rfl) (fun _ _ _ h => h) (Or.inl ⟨by rfl, ?hy6⟩) (by assumption) ?rest6
  case hy6 => (intro w hSw; (try dsimp only at hSw); go_simp; all_goals (with_reducible rfl))
  (try simp only [Act.put, List.setIfInBounds_toArray, List.set_cons_zero, List.set_cons_succ])
  refine wpAnyH_take (i := 7) (oi := { dst := some 19, op := Op.pick (Operand.tmp 15) (Operand.const (Value.bool true)) (Operand.tmp 18), type := 4, pos := "meta.go:41", after := #[{ on := 3, ground := Ground.data }, { on := 6, ground := Ground.data }], guard := none }) (v := ?v7) rfl (by kernel_rfl) (by kernel_rfl) (by kernel_rfl) (fun _ _ _ h => h) (Or.inl ⟨by rfl, ?hy7⟩) (by assumption) ?rest7
  case hy7 => (intro w hSw; (try dsimp only at hSw); go_simp; all_goals (with_reducible rfl))
  (try simp only [Act.put, List.setIfInBounds_toArray, List.set_cons_zero, List.set_cons_succ])
  refine wpAnyH_take (i := 8) (oi := { dst := some 20, op := Op.move (Operand.tmp 19), type := 4, pos := "meta.go:41", after := #[{ on := 7, ground := Ground.data }, { on := 3, ground := Ground.chain }], guard := none }) (v := ?v8) rfl (by kernel_rfl) (by kernel_rfl) (by kernel_rfl) (fun _ _ _ h => h) (Or.inl ⟨by rfl, ?hy8⟩) (by assumption) ?rest8
  case hy8 => (intro w hSw; (try dsimp only at hSw); go_simp; all_goals (with_reducible rfl))
  (try simp only [Act.put, List.setIfInBounds_toArray, List.set_cons_zero, List.set_cons_succ])
  refine wpAnyH_take (i := 9) (oi := { dst := some 21, op := Op.fieldAddr 39 (Operand.tmp 3) 4, type := 0, pos := "meta.go:41", after := #[{ on := 8, ground := Ground.guard }], guard := some (8, true) }) (v := ?v9) rfl (by kernel_rfl) (by kernel_rfl) (by kernel_rfl) (fun _ _ _ h => h) (Or.inl ⟨by rfl, ?hy9⟩) (by assumption) ?rest9
  case hy9 => (intro w hSw; (try dsimp only at hSw); go_simp; all_goals (with_reducible rfl))
  (try simp only [Act.put, List.setIfInBounds_toArray, List.set_cons_zero, List.set_cons_succ])
  refine wpAnyH_take (i := 10) (oi := { dst := some 22, op := Op.load 28 (Operand.tmp 21), type := 28, pos := "meta.go:41", after := #[{ on := 9, ground := Ground.data }, { on := 8, ground := Ground.guard }], guard := some (8, true) }) (v := ?v10) rfl (by kernel_rfl) (by kernel_rfl) (by kernel_rfl) (fun _ _ _ h => h) (Or.inl ⟨by rfl, ?hy10⟩) (by assumption) ?rest10
  case hy10 => (intro w hSw; (try dsimp only at hSw); go_simp; all_goals (with_reducible rfl))
  (try simp only [Act.put, List.setIfInBounds_toArray, List.set_cons_zero, List.set_cons_succ])
  refine wpAnyH_take (i := 11) (oi := { dst := some 23, op := Op.binOp BinOp.neq 28 (Operand.tmp 22) (Operand.const (Value.int IntKind.u64 0)) 28, type := 4, pos := "meta.go:41", after := #[{ on := 10, ground := Ground.data }, { on := 8, ground := Ground.guard }], guard := some (8, true) }) (v := ?v11) rfl (by kernel_rfl) (by kernel_rfl) (by kernel_rfl) (fun _ _ _ h => h) (Or.inl ⟨by rfl, ?hy11⟩) (by assumption) ?rest11
  case hy11 => (intro w hSw; (try dsimp only at hSw); go_simp; all_goals (with_reducible rfl))
  (try simp only [Act.put, List.setIfInBounds_toArray, List.set_cons_zero, List.set_cons_succ])
  refine wpAnyH_take (i := 12) (oi := { dst := some 24, op := Op.pick (Operand.tmp 20) (Operand.tmp 23) (Operand.const (Value.bool false)), type := 4, pos := "meta.go:41", after := #[{ on := 8, ground := Ground.data }, { on := 11, ground := Ground.data }], guard := none }) (v := ?v12) rfl (by kernel_rfl) (by kernel_rfl) (by kernel_rfl) (fun _ _ _ h => h) (Or.inl ⟨by rfl, ?hy12⟩) (by assumption) ?rest12
  case hy12 => (intro w hSw; (try dsimp only at hSw); go_simp; all_goals (with_reducible rfl))
  (try simp only [Act.put, List.setIfInBounds_toArray, List.set_cons_zero, List.set_cons_succ])
  refine wpAnyH_take (i := 13) (oi := { dst := some 25, op := Op.move (Operand.tmp 24), type := 4, pos := "meta.go:41", after := #[{ on := 12, ground := Ground.data }, { on := 8, ground := Ground.chain }], guard := none }) (v := ?v13) rfl (by kernel_rfl) (by kernel_rfl) (by kernel_rfl) (fun _ _ _ h => h) (Or.inl ⟨by rfl, ?hy13⟩) (by assumption) ?rest13
  case hy13 => (intro w hSw; (try dsimp only at hSw); go_simp; all_goals (with_reducible rfl))
  (try simp only [Act.put, List.setIfInBounds_toArray, List.set_cons_zero, List.set_cons_succ])
  refine wpAnyH_take (i := 14) (oi := { dst := some 26, op := Op.move (Operand.tmp 0), type := 134, pos := "meta.go:41", after := #[{ on := 13, ground := Ground.guard }], guard := some (13, true) }) (v := ?v14) rfl (by kernel_rfl) (by kernel_rfl) (by kernel_rfl) (fun _ _ _ h => h) (Or.inl ⟨by rfl, ?hy14⟩) (by assumption) ?rest14
  case hy14 => (intro w hSw; (try dsimp only at hSw); go_simp; all_goals (with_reducible rfl))
  (try simp only [Act.put, List.setIfInBounds_toArray, List.set_cons_zero, List.set_cons_succ])
  refine wpAnyH_take (i := 15) (oi := { dst := some 27, op := Op.nilCheck (Operand.tmp 26), type := 0, pos := "meta.go:41", after := #[{ on := 14, ground := Ground.data }, { on := 13, ground := Ground.guard }], guard := some (13, true) }) (v := ?v15) rfl (by kernel_rfl) (by kernel_rfl) (by kernel_rfl) (fun _ _ _ h => h) (Or.inl ⟨by rfl, ?hy15⟩) (by assumption) ?rest15
  case hy15 => (intro w hSw; (try dsimp only at hSw); go_simp; all_goals (with_reducible rfl))
  (try simp only [Act.put, List.setIfInBounds_toArray, List.set_cons_zero, List.set_cons_succ])
  refine wpAnyH_take (i := 16) (oi := { dst := some 28, op := Op.fieldAddr 109 (Operand.tmp 27) 2, type := 0, pos := "meta.go:41", after := #[{ on := 15, ground := Ground.data }, { on := 13, ground := Ground.guard }], guard := some (13, true) }) (v := ?v16) rfl (by kernel_rfl) (by kernel_rfl) (by kernel_rfl) (fun _ _ _ h => h) (Or.inl ⟨by rfl, ?hy16⟩) (by assumption) ?rest16
  case hy16 => (intro w hSw; (try dsimp only at hSw); go_simp; all_goals (with_reducible rfl))
  (try simp only [Act.put, List.setIfInBounds_toArray, List.set_cons_zero, List.set_cons_succ])
  refine wpAnyH_take (i := 17) (oi := { dst := some 29, op := Op.load 107 (Operand.tmp 28), type := 107, pos := "meta.go:41", after := #[{ on := 16, ground := Ground.data }, { on := 13, ground := Ground.guard }], guard := some (13, true) }) (v := ?v17) rfl (by kernel_rfl) (by kernel_rfl) (by kernel_rfl) (fun _ _ _ h => h) (Or.inl ⟨by rfl, ?hy17⟩) (by assumption) ?rest17
  case hy17 => (intro w hSw; (try dsimp only at hSw); go_simp; all_goals (with_reducible rfl))
  (try simp only [Act.put, List.setIfInBounds_toArray, List.set_cons_zero, List.set_cons_succ])
  refine wpAnyH_take (i := 18) (oi := { dst := some 30, op := Op.fieldAddr 39 (Operand.tmp 3) 4, type := 0, pos := "meta.go:41", after := #[{ on := 13, ground := Ground.guard }], guard := some (13, true) }) (v := ?v18) rfl (by kernel_rfl) (by kernel_rfl) (by kernel_rfl) (fun _ _ _ h => h) (Or.inl ⟨by rfl, ?hy18⟩) (by assumption) ?rest18
  case hy18 => (intro w hSw; (try dsimp only at hSw); go_simp; all_goals (with_reducible rfl))
  (try simp only [Act.put, List.setIfInBounds_toArray, List.set_cons_zero, List.set_cons_succ])
  refine wpAnyH_take (i := 19) (oi := { dst := some 31, op := Op.load 28 (Operand.tmp 30), type := 28, pos := "meta.go:41", after := #[{ on := 18, ground := Ground.data }, { on := 13, ground := Ground.guard }], guard := some (13, true) }) (v := ?v19) rfl (by kernel_rfl) (by kernel_rfl) (by kernel_rfl) (fun _ _ _ h => h) (Or.inl ⟨by rfl, ?hy19⟩) (by assumption) ?rest19
  case hy19 => (intro w hSw; (try dsimp only at hSw); go_simp; all_goals (with_reducible rfl))
  (try simp only [Act.put, List.setIfInBounds_toArray, List.set_cons_zero, List.set_cons_succ])
  refine wpAnyH_take (i := 20) (oi := { dst := some 32, op := Op.move (Operand.tmp 0), type := 134, pos := "meta.go:41", after := #[{ on := 13, ground := Ground.guard }], guard := some (13, true) }) (v := ?v20) rfl (by kernel_rfl) (by kernel_rfl) (by kernel_rfl) (fun _ _ _ h => h) (Or.inl ⟨by rfl, ?hy20⟩) (by assumption) ?rest20
  case hy20 => (intro w hSw; (try dsimp only at hSw); go_simp; all_goals (with_reducible rfl))
  (try simp only [Act.put, List.setIfInBounds_toArray, List.set_cons_zero, List.set_cons_succ])
  refine wpAnyH_take (i := 21) (oi := { dst := some 33, op := Op.nilCheck (Operand.tmp 32), type := 0, pos := "meta.go:41", after := #[{ on := 20, ground := Ground.data }, { on := 13, ground := Ground.guard }], guard := some (13, true) }) (v := ?v21) rfl (by kernel_rfl) (by kernel_rfl) (by kernel_rfl) (fun _ _ _ h => h) (Or.inl ⟨by rfl, ?hy21⟩) (by assumption) ?rest21
  case hy21 => (intro w hSw; (try dsimp only at hSw); go_simp; all_goals (with_reducible rfl))
  (try simp only [Act.put, List.setIfInBounds_toArray, List.set_cons_zero, List.set_cons_succ])
  refine wpAnyH_take (i := 22) (oi := { dst := some 34, op := Op.fieldAddr 109 (Operand.tmp 33) 0, type := 0, pos := "meta.go:41", after := #[{ on := 21, ground := Ground.data }, { on := 13, ground := Ground.guard }], guard := some (13, true) }) (v := ?v22) rfl (by kernel_rfl) (by kernel_rfl) (by kernel_rfl) (fun _ _ _ h => h) (Or.inl ⟨by rfl, ?hy22⟩) (by assumption) ?rest22
  case hy22 => (intro w hSw; (try dsimp only at hSw); go_simp; all_goals (with_reducible rfl))
  (try simp only [Act.put, List.setIfInBounds_toArray, List.set_cons_zero, List.set_cons_succ])
  refine wpAnyH_take (i := 23) (oi := { dst := some 35, op := Op.load 28 (Operand.tmp 34), type := 28, pos := "meta.go:41", after := #[{ on := 22, ground := Ground.data }, { on := 13, ground := Ground.guard }], guard := some (13, true) }) (v := ?v23) rfl (by kernel_rfl) (by kernel_rfl) (by kernel_rfl) (fun _ _ _ h => h) (Or.inl ⟨by rfl, ?hy23⟩) (by assumption) ?rest23
  case hy23 => (intro w hSw; (try dsimp only at hSw); go_simp; all_goals (with_reducible rfl))
  (try simp only [Act.put, List.setIfInBounds_toArray, List.set_cons_zero, List.set_cons_succ])
  refine wpAnyH_ready (rs := [24]) (by kernel_rfl) (by simp) ?_
  refine AllReadyH.cons (o := { dst := some 36, op := Op.call { callee := Callee.value (Operand.func 79), args := #[Operand.tmp 29, Operand.tmp 31, Operand.tmp 35], argTypes := #[107, 28, 28] }, type := 4, pos := "meta.go:41", after := #[{ on := 17, ground := Ground.data }, { on := 19, ground := Ground.data }, { on := 23, ground := Ground.data }, { on := 13, ground := Ground.chain }, { on := 13, ground := Ground.guard }], guard := some (13, true) }) rfl (fun K hK => ?_) AllReadyH.nil
  go_simp
  go_at_call 79
  (with_reducible refine (Ls.live_any bp s.last sess now s.l F2 _ HRd.out.st.book hl1000).mono ?_)
  rintro e w0 ⟨rfl, hb0⟩
  rw [HLV.out]
  have hq := HRd.out.stays hb0
  have hS1 := And.intro (cells6 hq.box (Below.refl _ _)).1 (hq.sees HN.out)
  unfold Sees at hS1
  have HQ := Lib.hid hq
  clear hb0 hq
  go_wp2_with fail
  refine hK.out _ _ hS1 (fun hHeld => ?_)
  clear hK K
  (try simp only [Act.put, List.setIfInBounds_toArray, List.set_cons_zero, List.set_cons_succ])
  refine wpAnyH_take (i := 25) (oi := { dst := some 37, op := Op.unOp UnOp.not 4 (Operand.tmp 36), type := 4, pos := "meta.go:41", after := #[{ on := 24, ground := Ground.data }, { on := 13, ground := Ground.guard }], guard := some (13, true) }) (v := ?v25) rfl (by kernel_rfl) (by kernel_rfl) (by kernel_rfl) (fun _ _ _ h => h) (Or.inl ⟨by rfl, ?hy25⟩) (by assumption) ?rest25
  case hy25 => (intro w hSw; (try dsimp only at hSw); go_simp; all_goals (with_reducible rfl))
  (try simp only [Act.put, List.setIfInBounds_toArray, List.set_cons_zero, List.set_cons_succ])
  refine wpAnyH_take (i := 26) (oi := { dst := some 38, op := Op.pick (Operand.tmp 25) (Operand.tmp 37) (Operand.const (Value.bool false)), type := 4, pos := "meta.go:41", after := #[{ on := 13, ground := Ground.data }, { on := 25, ground := Ground.data }], guard := none }) (v := ?v26) rfl (by kernel_rfl) (by kernel_rfl) (by kernel_rfl) (fun _ _ _ h => h) (Or.inl ⟨by rfl, ?hy26⟩) (by assumption) ?rest26
  case hy26 => (intro w hSw; (try dsimp only at hSw); go_simp; all_goals (with_reducible rfl))
  (try simp only [Act.put, List.setIfInBounds_toArray, List.set_cons_zero, List.set_cons_succ])
  refine wpAnyH_done (by kernel_rfl) ?_ _
  obtain ⟨b0, b1, b2, b3, b4, b5⟩ := cells6 HQ.out.box (Below.refl _ _)
  go_upto_region 14 with fail
  have HQd := Lib.hid HQ.out.drew
  have hS2 := HQd.out.sees HN.out
  unfold Sees at hS2
  go_region_held3 (fun wx => (wx.cell? ⟨sp, 0, none⟩ = some (.int .u64 (now : Int)) ∧ wx.cell? ⟨sp, 1, none⟩ = some (.pointer (some ⟨kp, 0, none⟩)) ∧ wx.cell? ⟨sp, 2, none⟩ = some (.pointer (some ⟨bp, 0, none⟩))) ∧
      wx.cell? ⟨T, 1, none⟩ = some (.string key) ∧ wx.cell? ⟨T, 2, none⟩ = some (.slice vo val.length vc) ∧ wx.cell? ⟨T, 3, none⟩ = some (.int .u64 (want : Int)) ∧ wx.cell? ⟨T, 4, none⟩ = some (.int .u64 (sess : Int)) ∧ wx.cell? ⟨T, 5, none⟩ = some (.int .u64 (ticks : Int)))
    (first | exact hS2 | exact hS3)
    (first | (go_at_call 83; (with_reducible refine (Ls.renew_any bp s.last sess now s.l F2 _ HQd.out.st.book hl1000 hn64 HW.out.life).mono ?_); rintro e w1 ⟨rfl, hw1⟩; have hS3 := HQd.out.sees' HN.out hw1.choose_spec.2.1 (fun k hk => .inr hk); unfold Sees at hS3; have H1 := Lib.hid hw1; clear hw1))
  go_wp2
  go_ret3
  obtain rfl := HN.out
  rw [HD.out]
  exact Did8.none' (n := 0) rfl (Now8.book' HQd.out H1.out)
-- ENDrenew_live
-- BEGINput_late
set_option maxHeartbeats 4000000 in
set_option maxRecDepth 100000 in
theorem do_put_late (s : St) (c : Cm) (vo : Option Addr) (vc : Nat) (sp kp bp : Nat) (cs : Array Value) (t : TypeId) (F1 F2 : List Nat) (w : World) (h : StAt w sp cs t s kp bp F1 F2) (hs : s.Wk) (hc : c.Fit) (hv : Bts w vo c.val) (hk : c.kind = 1) (h0 : c.sess ≠ 0) (h1 : Ls.liveL s.l c.sess s.now = false) :
    Calls Tryz.prog 48 #[.pointer (some ⟨sp, 0, none⟩), .agg (c.cells vo vc)] w (Did8 w sp cs t (doS s c) kp bp F1 F2) := by
  have HD := Lib.hid (show doS s c = (s, 0, [], 15) by simp [doS, late, hk, h0, h1])
  obtain ⟨kind, key, val, want, sess, ticks⟩ := c
  have HC := Lib.hid hc
  have HV := Lib.hid hv
  dsimp only at hk h0 h1
  subst hk
  have HR := Lib.hid (Run8.enter h (.cells (Cm.cells ⟨1, key, val, want, sess, ticks⟩ vo vc) 39))
  have HW := Lib.hid hs
  obtain ⟨now, hnow⟩ : ∃ now, s.now = now := ⟨_, rfl⟩
  have HN := Lib.hid hnow
  have hn40 : now ≤ 1099511627776 := hnow ▸ hs.now
  have hn64 : now < 18446744073709551616 := by omega
  have hl1000 : s.l.length ≤ 1000000 := Nat.le_trans hs.len (by decide)
  have i0 : ((sess : Int) != 0) = true := by simp; omega
  have i1 : ¬ ((sess : Int) = 0) := by omega
  rw [hnow] at h1
  have HLV := Lib.hid h1
  clear h1
  clear h hs hnow hc hv
  dsimp only [Cm.cells] at *
  go_enter Tryz.func48, Tryz.ntmps48
  go_upto_region 1 with fail
  obtain ⟨a0, a1, a2, a3, a4, a5⟩ := cells6 HR.out.box (Below.refl _ _)
  generalize w.alloc (.cells #[.int .u8 ((1 : Nat) : Int), .string key, .slice vo val.length vc, .int .u64 (want : Int), .int .u64 (sess : Int), .int .u64 (ticks : Int)] 39) = wb at *
  generalize hT : w.heap.size = T at *
  have HRd := Lib.hid HR.out.drew
  have hS0 := And.intro (show wb.drew.cell? ⟨T, 0, none⟩ = some (.int .u8 1) from a0) (HRd.out.sees HN.out)
  unfold Sees at hS0
  refine wp_region_held_drew (S := (fun wx => wx.cell? ⟨T, 0, none⟩ = some (.int .u8 1) ∧ (wx.cell? ⟨sp, 0, none⟩ = some (.int .u64 (now : Int)) ∧ wx.cell? ⟨sp, 1, none⟩ = some (.pointer (some ⟨kp, 0, none⟩)) ∧ wx.cell? ⟨sp, 2, none⟩ = some (.pointer (some ⟨bp, 0, none⟩))) ∧
      wx.cell? ⟨T, 1, none⟩ = some (.string key) ∧ wx.cell? ⟨T, 2, none⟩ = some (.slice vo val.length vc) ∧ wx.cell? ⟨T, 3, none⟩ = some (.int .u64 (want : Int)) ∧ wx.cell? ⟨T, 4, none⟩ = some (.int .u64 (sess : Int)) ∧ wx.cell? ⟨T, 5, none⟩ = some (.int .u64 (ticks : Int)))) (by kernel_rfl) hS0 (fun hHeld => ?_)
  refine wpAnyH_take (i := 0) (oi := { dst := some 12, op := Op.fieldAddr 39 (Operand.tmp 3) 0, type := 0, pos := "meta.go:41", after := #[], guard := none }) (v := ?v0) rfl (by kernel_rfl) (by kernel_rfl) (by kernel_rfl) (fun _ _ _ h => h) (Or.inl ⟨by rfl, ?hy0⟩) (by assumption) ?rest0
  case hy0 => (intro w hSw; (try dsimp only at hSw); go_simp; all_goals (with_reducible rfl))
  (try simp only [Act.put, List.setIfInBounds_toArray, List.set_cons_zero, List.set_cons_succ])
  refine wpAnyH_take (i := 1) (oi := { dst := some 13, op := Op.load 37 (Operand.tmp 12), type := 37, pos := "meta.go:41", after := #[{ on := 0, ground := Ground.data }], guard := none }) (v := ?v1) rfl (by kernel_rfl) (by kernel_rfl) (by kernel_rfl) (fun _ _ _ h => h) (Or.inl ⟨by rfl, ?hy1⟩) (by assumption) ?rest1
  case hy1 => (intro w hSw; (try dsimp only at hSw); go_simp; all_goals (with_reducible rfl))
  (try simp only [Act.put, List.setIfInBounds_toArray, List.set_cons_zero, List.set_cons_succ])
  refine wpAnyH_take (i := 2) (oi := { dst := some 14, op := Op.binOp BinOp.eql 37 (Operand.tmp 13) (Operand.const (Value.int IntKind.u8 1)) 37, type := 4, pos := "meta.go:41", after := #[{ on := 1, ground := Ground.data }], guard := none }) (v := ?v2) rfl (by kernel_rfl) (by kernel_rfl) (by kernel_rfl) (fun _ _ _ h => h) (Or.inl ⟨by rfl, ?hy2⟩) (by assumption) ?rest2
  case hy2 => (intro w hSw; (try dsimp only at hSw); go_simp; all_goals (with_reducible rfl))
  (try simp only [Act.put, List.setIfInBounds_toArray, List.set_cons_zero, List.set_cons_succ])
  refine wpAnyH_take (i := 3) (oi := { dst := some 15, op := Op.move (Operand.tmp 14), type := 4, pos := "meta.go:41", after := #[{ on := 2, ground := Ground.data }], guard := none }) (v := ?v3) rfl (by kernel_rfl) (by kernel_rfl) (by kernel_rfl) (fun _ _ _ h => h) (Or.inl ⟨by rfl, ?hy3⟩) (by assumption) ?rest3
  case hy3 => (intro w hSw; (try dsimp only at hSw); go_simp; all_goals (with_reducible rfl))
  (try simp only [Act.put, List.setIfInBounds_toArray, List.set_cons_zero, List.set_cons_succ])
  refine wpAnyH_take (i := 4) (oi := { dst := some 16, op := Op.fieldAddr 39 (Operand.tmp 3) 0, type := 0, pos := "meta.go:41", after := #[{ on := 3, ground := Ground.guard }], guard := some (3, false) }) (v := undef) rfl (by kernel_rfl) (by kernel_rfl) (by kernel_rfl) (fun _ _ _ h => h) (Or.inr ⟨by rfl, rfl⟩) (by assumption) ?_
  (try simp only [Act.put, List.setIfInBounds_toArray, List.set_cons_zero, List.set_cons_succ])
  refine wpAnyH_take (i := 5) (oi := { dst := some 17, op := Op.load 37 (Operand.tmp 16), type := 37, pos := "meta.go:41", after := #[{ on := 4, ground := Ground.data }, { on := 3, ground := Ground.guard }], guard := some (3, false) }) (v := undef) rfl (by kernel_rfl) (by kernel_rfl) (by kernel_rfl) (fun _ _ _ h => h) (Or.inr ⟨by rfl, rfl⟩) (by assumption) ?_
  (try simp only [Act.put, List.setIfInBounds_toArray, List.set_cons_zero, List.set_cons_succ])
  refine wpAnyH_take (i := 6) (oi := { dst := some 18, op := Op.binOp BinOp.eql 37 (Operand.tmp 17) (Operand.const (Value.int IntKind.u8 4)) 37, type := 4, pos := "meta.go:41", after := #[{ on := 5, ground := Ground.data }, { on := 3, ground := Ground.guard }], guard := some (3, false) }) (v := undef) rfl (by kernel_rfl) (by kernel_rfl) (by kernel_rfl) (fun _ _ _ h => h) (Or.inr ⟨by rfl, rfl⟩) (by assumption) ?_
  (try simp only [Act.put, List.setIfInBounds_toArray, List.set_cons_zero, List.set_cons_succ])
  refine wpAnyH_take (i := 7) (oi := { dst := some 19, op := Op.pick (Operand.tmp 15) (Operand.const (Value.bool true)) (Operand.tmp 18), type := 4, pos := "meta.go:41", after := #[{ on := 3, ground := Ground.data }, { on := 6, ground := Ground.data }], guard := none }) (v := ?v7) rfl (by kernel_rfl) (by kernel_rfl) (by kernel_rfl) (fun _ _ _ h => h) (Or.inl ⟨by rfl, ?hy7⟩) (by assumption) ?rest7
  case hy7 => (intro w hSw; (try dsimp only at hSw); go_simp; all_goals (with_reducible rfl))
  (try simp only [Act.put, List.setIfInBounds_toArray, List.set_cons_zero, List.set_cons_succ])
  refine wpAnyH_take (i := 8) (oi := { dst := some 20, op := Op.move (Operand.tmp 19), type := 4, pos := "meta.go:41", after := #[{ on := 7, ground := Ground.data }, { on := 3, ground := Ground.chain }], guard := none }) (v := ?v8) rfl (by kernel_rfl) (by kernel_rfl) (by kernel_rfl) (fun _ _ _ h => h) (Or.inl ⟨by rfl, ?hy8⟩) (by assumption) ?rest8
  case hy8 => (intro w hSw; (try dsimp only at hSw); go_simp; all_goals (with_reducible rfl))
  (try simp only [Act.put, List.setIfInBounds_toArray, List.set_cons_zero, List.set_cons_succ])
  refine wpAnyH_take (i := 9) (oi := { dst := some 21, op := Op.fieldAddr 39 (Operand.tmp 3) 4, type := 0, pos := "meta.go:41", after := #[{ on := 8, ground := Ground.guard }], guard := some (8, true) }) (v := ?v9) rfl (by kernel_rfl) (by kernel_rfl) (by kernel_rfl) (fun _ _ _ h => h) (Or.inl ⟨by rfl, ?hy9⟩) (by assumption) ?rest9
  case hy9 => (intro w hSw; (try dsimp only at hSw); go_simp; all_goals (with_reducible rfl))
  (try simp only [Act.put, List.setIfInBounds_toArray, List.set_cons_zero, List.set_cons_succ])
  refine wpAnyH_take (i := 10) (oi := { dst := some 22, op := Op.load 28 (Operand.tmp 21), type := 28, pos := "meta.go:41", after := #[{ on := 9, ground := Ground.data }, { on := 8, ground := Ground.guard }], guard := some (8, true) }) (v := ?v10) rfl (by kernel_rfl) (by kernel_rfl) (by kernel_rfl) (fun _ _ _ h => h) (Or.inl ⟨by rfl, ?hy10⟩) (by assumption) ?rest10
  case hy10 => (intro w hSw; (try dsimp only at hSw); go_simp; all_goals (with_reducible rfl))
  (try simp only [Act.put, List.setIfInBounds_toArray, List.set_cons_zero, List.set_cons_succ])
  refine wpAnyH_take (i := 11) (oi := { dst := some 23, op := Op.binOp BinOp.neq 28 (Operand.tmp 22) (Operand.const (Value.int IntKind.u64 0)) 28, type := 4, pos := "meta.go:41", after := #[{ on := 10, ground := Ground.data }, { on := 8, ground := Ground.guard }], guard := some (8, true) }) (v := ?v11) rfl (by kernel_rfl) (by kernel_rfl) (by kernel_rfl) (fun _ _ _ h => h) (Or.inl ⟨by rfl, ?hy11⟩) (by assumption) ?rest11
  case hy11 => (intro w hSw; (try dsimp only at hSw); go_simp; all_goals (with_reducible rfl))
  (try simp only [Act.put, List.setIfInBounds_toArray, List.set_cons_zero, List.set_cons_succ])
  refine wpAnyH_take (i := 12) (oi := { dst := some 24, op := Op.pick (Operand.tmp 20) (Operand.tmp 23) (Operand.const (Value.bool false)), type := 4, pos := "meta.go:41", after := #[{ on := 8, ground := Ground.data }, { on := 11, ground := Ground.data }], guard := none }) (v := ?v12) rfl (by kernel_rfl) (by kernel_rfl) (by kernel_rfl) (fun _ _ _ h => h) (Or.inl ⟨by rfl, ?hy12⟩) (by assumption) ?rest12
  case hy12 => (intro w hSw; (try dsimp only at hSw); go_simp; all_goals (with_reducible rfl))
  (try simp only [Act.put, List.setIfInBounds_toArray, List.set_cons_zero, List.set_cons_succ])
  refine wpAnyH_take (i := 13) (oi := { dst := some 25, op := Op.move (Operand.tmp 24), type := 4, pos := "meta.go:41", after := #[{ on := 12, ground := Ground.data }, { on := 8, ground := Ground.chain }], guard := none }) (v := ?v13) rfl (by kernel_rfl) (by kernel_rfl) (by kernel_rfl) (fun _ _ _ h => h) (Or.inl ⟨by rfl, ?hy13⟩) (by assumption) ?rest13
  case hy13 => (intro w hSw; (try dsimp only at hSw); go_simp; all_goals (with_reducible rfl))
  (try simp only [Act.put, List.setIfInBounds_toArray, List.set_cons_zero, List.set_cons_succ])
  refine wpAnyH_take (i := 14) (oi := { dst := some 26, op := Op.move (Operand.tmp 0), type := 134, pos := "meta.go:41", after := #[{ on := 13, ground := Ground.guard }], guard := some (13, true) }) (v := ?v14) rfl (by kernel_rfl) (by kernel_rfl) (by kernel_rfl) (fun _ _ _ h => h) (Or.inl ⟨by rfl, ?hy14⟩) (by assumption) ?rest14
  case hy14 => (intro w hSw; (try dsimp only at hSw); go_simp; all_goals (with_reducible rfl))
  (try simp only [Act.put, List.setIfInBounds_toArray, List.set_cons_zero, List.set_cons_succ])
  refine wpAnyH_take (i := 15) (oi := { dst := some 27, op := Op.nilCheck (Operand.tmp 26), type := 0, pos := "meta.go:41", after := #[{ on := 14, ground := Ground.data }, { on := 13, ground := Ground.guard }], guard := some (13, true) }) (v := ?v15) rfl (by kernel_rfl) (by kernel_rfl) (by kernel_rfl) (fun _ _ _ h => h) (Or.inl ⟨by rfl, ?hy15⟩) (by assumption) ?rest15
  case hy15 => (intro w hSw; (try dsimp only at hSw); go_simp; all_goals (with_reducible rfl))
  (try simp only [Act.put, List.setIfInBounds_toArray, List.set_cons_zero, List.set_cons_succ])
  refine wpAnyH_take (i := 16) (oi := { dst := some 28, op := Op.fieldAddr 109 (Operand.tmp 27) 2, type := 0, pos := "meta.go:41", after := #[{ on := 15, ground := Ground.data }, { on := 13, ground := Ground.guard }], guard := some (13, true) }) (v := ?v16) rfl (by kernel_rfl) (by kernel_rfl) (by kernel_rfl) (fun _ _ _ h => h) (Or.inl ⟨by rfl, ?hy16⟩) (by assumption) ?rest16
  case hy16 => (intro w hSw; (try dsimp only at hSw); go_simp; all_goals (with_reducible rfl))
  (try simp only [Act.put, List.setIfInBounds_toArray, List.set_cons_zero, List.set_cons_succ])
  refine wpAnyH_take (i := 17) (oi := { dst := some 29, op := Op.load 107 (Operand.tmp 28), type := 107, pos := "meta.go:41", after := #[{ on := 16, ground := Ground.data }, { on := 13, ground := Ground.guard }], guard := some (13, true) }) (v := ?v17) rfl (by kernel_rfl) (by kernel_rfl) (by kernel_rfl) (fun _ _ _ h => h) (Or.inl ⟨by rfl, ?hy17⟩) (by assumption) ?rest17
  case hy17 => (intro w hSw; (try dsimp only at hSw); go_simp; all_goals (with_reducible rfl))
  (try simp only [Act.put, List.setIfInBounds_toArray, List.set_cons_zero, List.set_cons_succ])
  refine wpAnyH_take (i := 18) (oi := { dst := some 30, op := Op.fieldAddr 39 (Operand.tmp 3) 4, type := 0, pos := "meta.go:41", after := #[{ on := 13, ground := Ground.guard }], guard := some (13, true) }) (v := ?v18) rfl (by kernel_rfl) (by kernel_rfl) (by kernel_rfl) (fun _ _ _ h => h) (Or.inl ⟨by rfl, ?hy18⟩) (by assumption) ?rest18
  case hy18 => (intro w hSw; (try dsimp only at hSw); go_simp; all_goals (with_reducible rfl))
  (try simp only [Act.put, List.setIfInBounds_toArray, List.set_cons_zero, List.set_cons_succ])
  refine wpAnyH_take (i := 19) (oi := { dst := some 31, op := Op.load 28 (Operand.tmp 30), type := 28, pos := "meta.go:41", after := #[{ on := 18, ground := Ground.data }, { on := 13, ground := Ground.guard }], guard := some (13, true) }) (v := ?v19) rfl (by kernel_rfl) (by kernel_rfl) (by kernel_rfl) (fun _ _ _ h => h) (Or.inl ⟨by rfl, ?hy19⟩) (by assumption) ?rest19
  case hy19 => (intro w hSw; (try dsimp only at hSw); go_simp; all_goals (with_reducible rfl))
  (try simp only [Act.put, List.setIfInBounds_toArray, List.set_cons_zero, List.set_cons_succ])
  refine wpAnyH_take (i := 20) (oi := { dst := some 32, op := Op.move (Operand.tmp 0), type := 134, pos := "meta.go:41", after := #[{ on := 13, ground := Ground.guard }], guard := some (13, true) }) (v := ?v20) rfl (by kernel_rfl) (by kernel_rfl) (by kernel_rfl) (fun _ _ _ h => h) (Or.inl ⟨by rfl, ?hy20⟩) (by assumption) ?rest20
  case hy20 => (intro w hSw; (try dsimp only at hSw); go_simp; all_goals (with_reducible rfl))
  (try simp only [Act.put, List.setIfInBounds_toArray, List.set_cons_zero, List.set_cons_succ])
  refine wpAnyH_take (i := 21) (oi := { dst := some 33, op := Op.nilCheck (Operand.tmp 32), type := 0, pos := "meta.go:41", after := #[{ on := 20, ground := Ground.data }, { on := 13, ground := Ground.guard }], guard := some (13, true) }) (v := ?v21) rfl (by kernel_rfl) (by kernel_rfl) (by kernel_rfl) (fun _ _ _ h => h) (Or.inl ⟨by rfl, ?hy21⟩) (by assumption) ?rest21
  case hy21 => (intro w hSw; (try dsimp only at hSw); go_simp; all_goals (with_reducible rfl))
  (try simp only [Act.put, List.setIfInBounds_toArray, List.set_cons_zero, List.set_cons_succ])
  refine wpAnyH_take (i := 22) (oi := { dst := some 34, op := Op.fieldAddr 109 (Operand.tmp 33) 0, type := 0, pos := "meta.go:41", after := #[{ on := 21, ground := Ground.data }, { on := 13, ground := Ground.guard }], guard := some (13, true) }) (v := ?v22) rfl (by kernel_rfl) (by kernel_rfl) (by kernel_rfl) (fun _ _ _ h => h) (Or.inl ⟨by rfl, ?hy22⟩) (by assumption) ?rest22
  case hy22 => (intro w hSw; (try dsimp only at hSw); go_simp; all_goals (with_reducible rfl))
  (try simp only [Act.put, List.setIfInBounds_toArray, List.set_cons_zero, List.set_cons_succ])
  refine wpAnyH_take (i := 23) (oi := { dst := some 35, op := Op.load 28 (Operand.tmp 34), type := 28, pos := "meta.go:41", after := #[{ on := 22, ground := Ground.data }, { on := 13, ground := Ground.guard }], guard := some (13, true) }) (v := ?v23) rfl (by kernel_rfl) (by kernel_rfl) (by kernel_rfl) (fun _ _ _ h => h) (Or.inl ⟨by rfl, ?hy23⟩) (by assumption) ?rest23
  case hy23 => (intro w hSw; (try dsimp only at hSw); go_simp; all_goals (with_reducible rfl))
  (try simp only [Act.put, List.setIfInBounds_toArray, List.set_cons_zero, List.set_cons_succ])
  refine wpAnyH_ready (rs := [24]) (by kernel_rfl) (by simp) ?_
  refine AllReadyH.cons (o := { dst := some 36, op := Op.call { callee := Callee.value (Operand.func 79), args := #[Operand.tmp 29, Operand.tmp 31, Operand.tmp 35], argTypes := #[107, 28, 28] }, type := 4, pos := "meta.go:41", after := #[{ on := 17, ground := Ground.data }, { on := 19, ground := Ground.data }, { on := 23, ground := Ground.data }, { on := 13, ground := Ground.chain }, { on := 13, ground := Ground.guard }], guard := some (13, true) }) rfl (fun K hK => ?_) AllReadyH.nil
  go_simp
  go_at_call 79
  (with_reducible refine (Ls.live_any bp s.last sess now s.l F2 _ HRd.out.st.book hl1000).mono ?_)
  rintro e w0 ⟨rfl, hb0⟩
  rw [HLV.out]
  have hq := HRd.out.stays hb0
  have hS1 := And.intro (cells6 hq.box (Below.refl _ _)).1 (hq.sees HN.out)
  unfold Sees at hS1
  have HQ := Lib.hid hq
  clear hb0 hq
  go_wp2_with fail
  refine hK.out _ _ hS1 (fun hHeld => ?_)
  clear hK K
  (try simp only [Act.put, List.setIfInBounds_toArray, List.set_cons_zero, List.set_cons_succ])
  refine wpAnyH_take (i := 25) (oi := { dst := some 37, op := Op.unOp UnOp.not 4 (Operand.tmp 36), type := 4, pos := "meta.go:41", after := #[{ on := 24, ground := Ground.data }, { on := 13, ground := Ground.guard }], guard := some (13, true) }) (v := ?v25) rfl (by kernel_rfl) (by kernel_rfl) (by kernel_rfl) (fun _ _ _ h => h) (Or.inl ⟨by rfl, ?hy25⟩) (by assumption) ?rest25
  case hy25 => (intro w hSw; (try dsimp only at hSw); go_simp; all_goals (with_reducible rfl))
  (try simp only [Act.put, List.setIfInBounds_toArray, List.set_cons_zero, List.set_cons_succ])
  refine wpAnyH_take (i := 26) (oi := { dst := some 38, op := Op.pick (Operand.tmp 25) (Operand.tmp 37) (Operand.const (Value.bool false)), type := 4, pos := "meta.go:41", after := #[{ on := 13, ground := Ground.data }, { on := 25, ground := Ground.data }], guard := none }) (v := ?v26) rfl (by kernel_rfl) (by kernel_rfl) (by kernel_rfl) (fun _ _ _ h => h) (Or.inl ⟨by rfl, ?hy26⟩) (by assumption) ?rest26
  case hy26 => (intro w hSw; (try dsimp only at hSw); go_simp; all_goals (with_reducible rfl))
  (try simp only [Act.put, List.setIfInBounds_toArray, List.set_cons_zero, List.set_cons_succ])
  refine wpAnyH_done (by kernel_rfl) ?_ _
  obtain ⟨b0, b1, b2, b3, b4, b5⟩ := cells6 HQ.out.box (Below.refl _ _)
  go_wp2
  go_ret3
  rw [HD.out]
  exact Did8.none' (n := 0) rfl (Now8.same HQ.out.old (hT ▸ HQ.out.below))
-- ENDput_late
-- BEGINrenew_late
set_option maxHeartbeats 4000000 in
set_option maxRecDepth 100000 in
theorem do_renew_late (s : St) (c : Cm) (vo : Option Addr) (vc : Nat) (sp kp bp : Nat) (cs : Array Value) (t : TypeId) (F1 F2 : List Nat) (w : World) (h : StAt w sp cs t s kp bp F1 F2) (hs : s.Wk) (hc : c.Fit) (hv : Bts w vo c.val) (hk : c.kind = 4) (h0 : c.sess ≠ 0) (h1 : Ls.liveL s.l c.sess s.now = false) :
    Calls Tryz.prog 48 #[.pointer (some ⟨sp, 0, none⟩), .agg (c.cells vo vc)] w (Did8 w sp cs t (doS s c) kp bp F1 F2) := by
  have HD := Lib.hid (show doS s c = (s, 0, [], 15) by simp [doS, late, hk, h0, h1])
  obtain ⟨kind, key, val, want, sess, ticks⟩ := c
  have HC := Lib.hid hc
  have HV := Lib.hid hv
  dsimp only at hk h0 h1
  subst hk
  have HR := Lib.hid (Run8.enter h (.cells (Cm.cells ⟨4, key, val, want, sess, ticks⟩ vo vc) 39))
  have HW := Lib.hid hs
  obtain ⟨now, hnow⟩ : ∃ now, s.now = now := ⟨_, rfl⟩
  have HN := Lib.hid hnow
  have hn40 : now ≤ 1099511627776 := hnow ▸ hs.now
  have hn64 : now < 18446744073709551616 := by omega
  have hl1000 : s.l.length ≤ 1000000 := Nat.le_trans hs.len (by decide)
  have i0 : ((sess : Int) != 0) = true := by simp; omega
  have i1 : ¬ ((sess : Int) = 0) := by omega
  rw [hnow] at h1
  have HLV := Lib.hid h1
  clear h1
  clear h hs hnow hc hv
  dsimp only [Cm.cells] at *
  go_enter Tryz.func48, Tryz.ntmps48
  go_upto_region 1 with fail
  obtain ⟨a0, a1, a2, a3, a4, a5⟩ := cells6 HR.out.box (Below.refl _ _)
  generalize w.alloc (.cells #[.int .u8 ((4 : Nat) : Int), .string key, .slice vo val.length vc, .int .u64 (want : Int), .int .u64 (sess : Int), .int .u64 (ticks : Int)] 39) = wb at *
  generalize hT : w.heap.size = T at *
  have HRd := Lib.hid HR.out.drew
  have hS0 := And.intro (show wb.drew.cell? ⟨T, 0, none⟩ = some (.int .u8 4) from a0) (HRd.out.sees HN.out)
  unfold Sees at hS0
  refine wp_region_held_drew (S := (fun wx => wx.cell? ⟨T, 0, none⟩ = some (.int .u8 4) ∧ (wx.cell? ⟨sp, 0, none⟩ = some (.int .u64 (now : Int)) ∧ wx.cell? ⟨sp, 1, none⟩ = some (.pointer (some ⟨kp, 0, none⟩)) ∧ wx.cell? ⟨sp, 2, none⟩ = some (.pointer (some ⟨bp, 0, none⟩))) ∧
      wx.cell? ⟨T, 1, none⟩ = some (.string key) ∧ wx.cell? ⟨T, 2, none⟩ = some (.slice vo val.length vc) ∧ wx.cell? ⟨T, 3, none⟩ = some (.int .u64 (want : Int)) ∧ wx.cell? ⟨T, 4, none⟩ = some (.int .u64 (sess : Int)) ∧ wx.cell? ⟨T, 5, none⟩ = some (.int .u64 (ticks : Int)))) (by kernel_rfl) hS0 (fun hHeld => ?_)
  refine wpAnyH_take (i := 0) (oi := { dst := some 12, op := Op.fieldAddr 39 (Operand.tmp 3) 0, type := 0, pos := "meta.go:41", after := #[], guard := none }) (v := ?v0) rfl (by kernel_rfl) (by kernel_rfl) (by kernel_rfl) (fun _ _ _ h => h) (Or.inl ⟨by rfl, ?hy0⟩) (by assumption) ?rest0
  case hy0 => (intro w hSw; (try dsimp only at hSw); go_simp; all_goals (with_reducible rfl))
  (try simp only [Act.put, List.setIfInBounds_toArray, List.set_cons_zero, List.set_cons_succ])
  refine wpAnyH_take (i := 1) (oi := { dst := some 13, op := Op.load 37 (Operand.tmp 12), type := 37, pos := "meta.go:41", after := #[{ on := 0, ground := Ground.data }], guard := none }) (v := ?v1) rfl (by kernel_rfl) (by kernel_rfl) (by kernel_rfl) (fun _ _ _ h => h) (Or.inl ⟨by rfl, ?hy1⟩) (by assumption) ?rest1
  case hy1 => (intro w hSw; (try dsimp only at hSw); go_simp; all_goals (with_reducible rfl))
  (try simp only [Act.put, List.setIfInBounds_toArray, List.set_cons_zero, List.set_cons_succ])
  refine wpAnyH_take (i := 2) (oi := { dst := some 14, op := Op.binOp BinOp.eql 37 (Operand.tmp 13) (Operand.const (Value.int IntKind.u8 1)) 37, type := 4, pos := "meta.go:41", after := #[{ on := 1, ground := Ground.data }], guard := none }) (v := ?v2) rfl (by kernel_rfl) (by kernel_rfl) (by kernel_rfl) (fun _ _ _ h => h) (Or.inl ⟨by rfl, ?hy2⟩) (by assumption) ?rest2
  case hy2 => (intro w hSw; (try dsimp only at hSw); go_simp; all_goals (with_reducible rfl))
  (try simp only [Act.put, List.setIfInBounds_toArray, List.set_cons_zero, List.set_cons_succ])
  refine wpAnyH_take (i := 3) (oi := { dst := some 15, op := Op.move (Operand.tmp 14), type := 4, pos := "meta.go:41", after := #[{ on := 2, ground := Ground.data }], guard := none }) (v := ?v3) rfl (by kernel_rfl) (by kernel_rfl) (by kernel_rfl) (fun _ _ _ h => h) (Or.inl ⟨by rfl, ?hy3⟩) (by assumption) ?rest3
  case hy3 => (intro w hSw; (try dsimp only at hSw); go_simp; all_goals (with_reducible rfl))
  (try simp only [Act.put, List.setIfInBounds_toArray, List.set_cons_zero, List.set_cons_succ])
  refine wpAnyH_take (i := 4) (oi := { dst := some 16, op := Op.fieldAddr 39 (Operand.tmp 3) 0, type := 0, pos := "meta.go:41", after := #[{ on := 3, ground := Ground.guard }], guard := some (3, false) }) (v := ?v4) rfl (by kernel_rfl) (by kernel_rfl) (by kernel_rfl) (fun _ _ _ h => h) (Or.inl ⟨by rfl, ?hy4⟩) (by assumption) ?rest4
  case hy4 => (intro w hSw; (try dsimp only at hSw); go_simp; all_goals (with_reducible rfl))
  (try simp only [Act.put, List.setIfInBounds_toArray, List.set_cons_zero, List.set_cons_succ])
  refine wpAnyH_take (i := 5) (oi := { dst := some 17, op := Op.load 37 (Operand.tmp 16), type := 37, pos := "meta.go:41", after := #[{ on := 4, ground := Ground.data }, { on := 3, ground := Ground.guard }], guard := some (3, false) }) (v := ?v5) rfl (by kernel_rfl) (by kernel_rfl) (by kernel_rfl) (fun _ _ _ h => h) (Or.inl ⟨by rfl, ?hy5⟩) (by assumption) ?rest5
  case hy5 => (intro w hSw; (try dsimp only at hSw); go_simp; all_goals (with_reducible rfl))
  (try simp only [Act.put, List.setIfInBounds_toArray, List.set_cons_zero, List.set_cons_succ])
  refine wpAnyH_take (i := 6) (oi := { dst := some 18, op := Op.binOp BinOp.eql 37 (Operand.tmp 17) (Operand.const (Value.int IntKind.u8 4)) 37, type := 4, pos := "meta.go:41", after := #[{ on := 5, ground := Ground.data }, { on := 3, ground := Ground.guard }], guard := some (3, false) }) (v := ?v6) rfl (by kernel_rfl) (by kernel_rfl) (by kernel_rfl) (fun _ _ _ h => h) (Or.inl ⟨by rfl, ?hy6⟩) (by assumption) ?rest6
  case hy6 => (intro w hSw; (try dsimp only at hSw); go_simp; all_goals (with_reducible rfl))
  (try simp only [Act.put, List.setIfInBounds_toArray, List.set_cons_zero, List.set_cons_succ])
  refine wpAnyH_take (i := 7) (oi := { dst := some 19, op := Op.pick (Operand.tmp 15) (Operand.const (Value.bool true)) (Operand.tmp 18), type := 4, pos := "meta.go:41", after := #[{ on := 3, ground := Ground.data }, { on := 6, ground := Ground.data }], guard := none }) (v := ?v7) rfl (by kernel_rfl) (by kernel_rfl) (by kernel_rfl) (fun _ _ _ h => h) (Or.inl ⟨by rfl, ?hy7⟩) (by assumption) ?rest7
  case hy7 => (intro w hSw; (try dsimp only at hSw); go_simp; all_goals (with_reducible rfl))
  (try simp only [Act.put, List.setIfInBounds_toArray, List.set_cons_zero, List.set_cons_succ])
  refine wpAnyH_take (i := 8) (oi := { dst := some 20, op := Op.move (Operand.tmp 19), type := 4, pos := "meta.go:41", after := #[{ on := 7, ground := Ground.data }, { on := 3, ground := Ground.chain }], guard := none }) (v := ?v8) rfl (by kernel_rfl) (by kernel_rfl) (by kernel_rfl) (fun _ _ _ h => h) (Or.inl ⟨by rfl, ?hy8⟩) (by assumption) ?rest8
  case hy8 => (intro w hSw; (try dsimp only at hSw); go_simp; all_goals (with_reducible rfl))
  (try simp only [Act.put, List.setIfInBounds_toArray, List.set_cons_zero, List.set_cons_succ])
  refine wpAnyH_take (i := 9) (oi := { dst := some 21, op := Op.fieldAddr 39 (Operand.tmp 3) 4, type := 0, pos := "meta.go:41", after := #[{ on := 8, ground := Ground.guard }], guard := some (8, true) }) (v := ?v9) rfl (by kernel_rfl) (by kernel_rfl) (by kernel_rfl) (fun _ _ _ h => h) (Or.inl ⟨by rfl, ?hy9⟩) (by assumption) ?rest9
  case hy9 => (intro w hSw; (try dsimp only at hSw); go_simp; all_goals (with_reducible rfl))
  (try simp only [Act.put, List.setIfInBounds_toArray, List.set_cons_zero, List.set_cons_succ])
  refine wpAnyH_take (i := 10) (oi := { dst := some 22, op := Op.load 28 (Operand.tmp 21), type := 28, pos := "meta.go:41", after := #[{ on := 9, ground := Ground.data }, { on := 8, ground := Ground.guard }], guard := some (8, true) }) (v := ?v10) rfl (by kernel_rfl) (by kernel_rfl) (by kernel_rfl) (fun _ _ _ h => h) (Or.inl ⟨by rfl, ?hy10⟩) (by assumption) ?rest10
  case hy10 => (intro w hSw; (try dsimp only at hSw); go_simp; all_goals (with_reducible rfl))
  (try simp only [Act.put, List.setIfInBounds_toArray, List.set_cons_zero, List.set_cons_succ])
  refine wpAnyH_take (i := 11) (oi := { dst := some 23, op := Op.binOp BinOp.neq 28 (Operand.tmp 22) (Operand.const (Value.int IntKind.u64 0)) 28, type := 4, pos := "meta.go:41", after := #[{ on := 10, ground := Ground.data }, { on := 8, ground := Ground.guard }], guard := some (8, true) }) (v := ?v11) rfl (by kernel_rfl) (by kernel_rfl) (by kernel_rfl) (fun _ _ _ h => h) (Or.inl ⟨by rfl, ?hy11⟩) (by assumption) ?rest11
  case hy11 => (intro w hSw; (try dsimp only at hSw); go_simp; all_goals (with_reducible rfl))
  (try simp only [Act.put, List.setIfInBounds_toArray, List.set_cons_zero, List.set_cons_succ])
  refine wpAnyH_take (i := 12) (oi := { dst := some 24, op := Op.pick (Operand.tmp 20) (Operand.tmp 23) (Operand.const (Value.bool false)), type := 4, pos := "meta.go:41", after := #[{ on := 8, ground := Ground.data }, { on := 11, ground := Ground.data }], guard := none }) (v := ?v12) rfl (by kernel_rfl) (by kernel_rfl) (by kernel_rfl) (fun _ _ _ h => h) (Or.inl ⟨by rfl, ?hy12⟩) (by assumption) ?rest12
  case hy12 => (intro w hSw; (try dsimp only at hSw); go_simp; all_goals (with_reducible rfl))
  (try simp only [Act.put, List.setIfInBounds_toArray, List.set_cons_zero, List.set_cons_succ])
  refine wpAnyH_take (i := 13) (oi := { dst := some 25, op := Op.move (Operand.tmp 24), type := 4, pos := "meta.go:41", after := #[{ on := 12, ground := Ground.data }, { on := 8, ground := Ground.chain }], guard := none }) (v := ?v13) rfl (by kernel_rfl) (by kernel_rfl) (by kernel_rfl) (fun _ _ _ h => h) (Or.inl ⟨by rfl, ?hy13⟩) (by assumption) ?rest13
  case hy13 => (intro w hSw; (try dsimp only at hSw); go_simp; all_goals (with_reducible rfl))
  (try simp only [Act.put, List.setIfInBounds_toArray, List.set_cons_zero, List.set_cons_succ])
  refine wpAnyH_take (i := 14) (oi := { dst := some 26, op := Op.move (Operand.tmp 0), type := 134, pos := "meta.go:41", after := #[{ on := 13, ground := Ground.guard }], guard := some (13, true) }) (v := ?v14) rfl (by kernel_rfl) (by kernel_rfl) (by kernel_rfl) (fun _ _ _ h => h) (Or.inl ⟨by rfl, ?hy14⟩) (by assumption) ?rest14
  case hy14 => (intro w hSw; (try dsimp only at hSw); go_simp; all_goals (with_reducible rfl))
  (try simp only [Act.put, List.setIfInBounds_toArray, List.set_cons_zero, List.set_cons_succ])
  refine wpAnyH_take (i := 15) (oi := { dst := some 27, op := Op.nilCheck (Operand.tmp 26), type := 0, pos := "meta.go:41", after := #[{ on := 14, ground := Ground.data }, { on := 13, ground := Ground.guard }], guard := some (13, true) }) (v := ?v15) rfl (by kernel_rfl) (by kernel_rfl) (by kernel_rfl) (fun _ _ _ h => h) (Or.inl ⟨by rfl, ?hy15⟩) (by assumption) ?rest15
  case hy15 => (intro w hSw; (try dsimp only at hSw); go_simp; all_goals (with_reducible rfl))
  (try simp only [Act.put, List.setIfInBounds_toArray, List.set_cons_zero, List.set_cons_succ])
  refine wpAnyH_take (i := 16) (oi := { dst := some 28, op := Op.fieldAddr 109 (Operand.tmp 27) 2, type := 0, pos := "meta.go:41", after := #[{ on := 15, ground := Ground.data }, { on := 13, ground := Ground.guard }], guard := some (13, true) }) (v := ?v16) rfl (by kernel_rfl) (by kernel_rfl) (by kernel_rfl) (fun _ _ _ h => h) (Or.inl ⟨by rfl, ?hy16⟩) (by assumption) ?rest16
  case hy16 => (intro w hSw; (try dsimp only at hSw); go_simp; all_goals (with_reducible rfl))
  (try simp only [Act.put, List.setIfInBounds_toArray, List.set_cons_zero, List.set_cons_succ])
  refine wpAnyH_take (i := 17) (oi := { dst := some 29, op := Op.load 107 (Operand.tmp 28), type := 107, pos := "meta.go:41", after := #[{ on := 16, ground := Ground.data }, { on := 13, ground := Ground.guard }], guard := some (13, true) }) (v := ?v17) rfl (by kernel_rfl) (by kernel_rfl) (by kernel_rfl) (fun _ _ _ h => h) (Or.inl ⟨by rfl, ?hy17⟩) (by assumption) ?rest17
  case hy17 => (intro w hSw; (try dsimp only at hSw); go_simp; all_goals (with_reducible rfl))
  (try simp only [Act.put, List.setIfInBounds_toArray, List.set_cons_zero, List.set_cons_succ])
  refine wpAnyH_take (i := 18) (oi := { dst := some 30, op := Op.fieldAddr 39 (Operand.tmp 3) 4, type := 0, pos := "meta.go:41", after := #[{ on := 13, ground := Ground.guard }], guard := some (13, true) }) (v := ?v18) rfl (by kernel_rfl) (by kernel_rfl) (by kernel_rfl) (fun _ _ _ h => h) (Or.inl ⟨by rfl, ?hy18⟩) (by assumption) ?rest18
  case hy18 => (intro w hSw; (try dsimp only at hSw); go_simp; all_goals (with_reducible rfl))
  (try simp only [Act.put, List.setIfInBounds_toArray, List.set_cons_zero, List.set_cons_succ])
  refine wpAnyH_take (i := 19) (oi := { dst := some 31, op := Op.load 28 (Operand.tmp 30), type := 28, pos := "meta.go:41", after := #[{ on := 18, ground := Ground.data }, { on := 13, ground := Ground.guard }], guard := some (13, true) }) (v := ?v19) rfl (by kernel_rfl) (by kernel_rfl) (by kernel_rfl) (fun _ _ _ h => h) (Or.inl ⟨by rfl, ?hy19⟩) (by assumption) ?rest19
  case hy19 => (intro w hSw; (try dsimp only at hSw); go_simp; all_goals (with_reducible rfl))
  (try simp only [Act.put, List.setIfInBounds_toArray, List.set_cons_zero, List.set_cons_succ])
  refine wpAnyH_take (i := 20) (oi := { dst := some 32, op := Op.move (Operand.tmp 0), type := 134, pos := "meta.go:41", after := #[{ on := 13, ground := Ground.guard }], guard := some (13, true) }) (v := ?v20) rfl (by kernel_rfl) (by kernel_rfl) (by kernel_rfl) (fun _ _ _ h => h) (Or.inl ⟨by rfl, ?hy20⟩) (by assumption) ?rest20
  case hy20 => (intro w hSw; (try dsimp only at hSw); go_simp; all_goals (with_reducible rfl))
  (try simp only [Act.put, List.setIfInBounds_toArray, List.set_cons_zero, List.set_cons_succ])
  refine wpAnyH_take (i := 21) (oi := { dst := some 33, op := Op.nilCheck (Operand.tmp 32), type := 0, pos := "meta.go:41", after := #[{ on := 20, ground := Ground.data }, { on := 13, ground := Ground.guard }], guard := some (13, true) }) (v := ?v21) rfl (by kernel_rfl) (by kernel_rfl) (by kernel_rfl) (fun _ _ _ h => h) (Or.inl ⟨by rfl, ?hy21⟩) (by assumption) ?rest21
  case hy21 => (intro w hSw; (try dsimp only at hSw); go_simp; all_goals (with_reducible rfl))
  (try simp only [Act.put, List.setIfInBounds_toArray, List.set_cons_zero, List.set_cons_succ])
  refine wpAnyH_take (i := 22) (oi := { dst := some 34, op := Op.fieldAddr 109 (Operand.tmp 33) 0, type := 0, pos := "meta.go:41", after := #[{ on := 21, ground := Ground.data }, { on := 13, ground := Ground.guard }], guard := some (13, true) }) (v := ?v22) rfl (by kernel_rfl) (by kernel_rfl) (by kernel_rfl) (fun _ _ _ h => h) (Or.inl ⟨by rfl, ?hy22⟩) (by assumption) ?rest22
  case hy22 => (intro w hSw; (try dsimp only at hSw); go_simp; all_goals (with_reducible rfl))
  (try simp only [Act.put, List.setIfInBounds_toArray, List.set_cons_zero, List.set_cons_succ])
  refine wpAnyH_take (i := 23) (oi := { dst := some 35, op := Op.load 28 (Operand.tmp 34), type := 28, pos := "meta.go:41", after := #[{ on := 22, ground := Ground.data }, { on := 13, ground := Ground.guard }], guard := some (13, true) }) (v := ?v23) rfl (by kernel_rfl) (by kernel_rfl) (by kernel_rfl) (fun _ _ _ h => h) (Or.inl ⟨by rfl, ?hy23⟩) (by assumption) ?rest23
  case hy23 => (intro w hSw; (try dsimp only at hSw); go_simp; all_goals (with_reducible rfl))
  (try simp only [Act.put, List.setIfInBounds_toArray, List.set_cons_zero, List.set_cons_succ])
  refine wpAnyH_ready (rs := [24]) (by kernel_rfl) (by simp) ?_
  refine AllReadyH.cons (o := { dst := some 36, op := Op.call { callee := Callee.value (Operand.func 79), args := #[Operand.tmp 29, Operand.tmp 31, Operand.tmp 35], argTypes := #[107, 28, 28] }, type := 4, pos := "meta.go:41", after := #[{ on := 17, ground := Ground.data }, { on := 19, ground := Ground.data }, { on := 23, ground := Ground.data }, { on := 13, ground := Ground.chain }, { on := 13, ground := Ground.guard }], guard := some (13, true) }) rfl (fun K hK => ?_) AllReadyH.nil
  go_simp
  go_at_call 79
  (with_reducible refine (Ls.live_any bp s.last sess now s.l F2 _ HRd.out.st.book hl1000).mono ?_)
  rintro e w0 ⟨rfl, hb0⟩
  rw [HLV.out]
  have hq := HRd.out.stays hb0
  have hS1 := And.intro (cells6 hq.box (Below.refl _ _)).1 (hq.sees HN.out)
  unfold Sees at hS1
  have HQ := Lib.hid hq
  clear hb0 hq
  go_wp2_with fail
  refine hK.out _ _ hS1 (fun hHeld => ?_)
  clear hK K
  (try simp only [Act.put, List.setIfInBounds_toArray, List.set_cons_zero, List.set_cons_succ])
  refine wpAnyH_take (i := 25) (oi := { dst := some 37, op := Op.unOp UnOp.not 4 (Operand.tmp 36), type := 4, pos := "meta.go:41", after := #[{ on := 24, ground := Ground.data }, { on := 13, ground := Ground.guard }], guard := some (13, true) }) (v := ?v25) rfl (by kernel_rfl) (by kernel_rfl) (by kernel_rfl) (fun _ _ _ h => h) (Or.inl ⟨by rfl, ?hy25⟩) (by assumption) ?rest25
  case hy25 => (intro w hSw; (try dsimp only at hSw); go_simp; all_goals (with_reducible rfl))
  (try simp only [Act.put, List.setIfInBounds_toArray, List.set_cons_zero, List.set_cons_succ])
  refine wpAnyH_take (i := 26) (oi := { dst := some 38, op := Op.pick (Operand.tmp 25) (Operand.tmp 37) (Operand.const (Value.bool false)), type := 4, pos := "meta.go:41", after := #[{ on := 13, ground := Ground.data }, { on := 25, ground := Ground.data }], guard := none }) (v := ?v26) rfl (by kernel_rfl) (by kernel_rfl) (by kernel_rfl) (fun _ _ _ h => h) (Or.inl ⟨by rfl, ?hy26⟩) (by assumption) ?rest26
  case hy26 => (intro w hSw; (try dsimp only at hSw); go_simp; all_goals (with_reducible rfl))
  (try simp only [Act.put, List.setIfInBounds_toArray, List.set_cons_zero, List.set_cons_succ])
  refine wpAnyH_done (by kernel_rfl) ?_ _
  obtain ⟨b0, b1, b2, b3, b4, b5⟩ := cells6 HQ.out.box (Below.refl _ _)
  go_wp2
  go_ret3
  rw [HD.out]
  exact Did8.none' (n := 0) rfl (Now8.same HQ.out.old (hT ▸ HQ.out.below))
-- ENDrenew_late
-- BEGINsnap
set_option maxHeartbeats 4000000 in
set_option maxRecDepth 100000 in
theorem do_snap (s : St) (c : Cm) (vo : Option Addr) (vc : Nat) (sp kp bp : Nat) (cs : Array Value) (t : TypeId) (F1 F2 : List Nat) (w : World) (h : StAt w sp cs t s kp bp F1 F2) (hs : s.Wk) (hc : c.Fit) (hv : Bts w vo c.val) (hk : c.kind = 7) :
    Calls Tryz.prog 48 #[.pointer (some ⟨sp, 0, none⟩), .agg (c.cells vo vc)] w (Did8 w sp cs t (doS s c) kp bp F1 F2) := by
  have HD := Lib.hid (show doS s c = (s, 0, [], 0) by simp [doS, late, hk])
  obtain ⟨kind, key, val, want, sess, ticks⟩ := c
  have HC := Lib.hid hc
  have HV := Lib.hid hv
  dsimp only at hk
  subst hk
  have HR := Lib.hid (Run8.enter h (.cells (Cm.cells ⟨7, key, val, want, sess, ticks⟩ vo vc) 39))
  have HW := Lib.hid hs
  obtain ⟨now, hnow⟩ : ∃ now, s.now = now := ⟨_, rfl⟩
  have HN := Lib.hid hnow
  have hn40 : now ≤ 1099511627776 := hnow ▸ hs.now
  have hn64 : now < 18446744073709551616 := by omega
  clear h hs hnow hc hv
  dsimp only [Cm.cells] at *
  go_enter Tryz.func48, Tryz.ntmps48
  go_upto_region 1 with fail
  obtain ⟨a0, a1, a2, a3, a4, a5⟩ := cells6 HR.out.box (Below.refl _ _)
  generalize w.alloc (.cells #[.int .u8 ((7 : Nat) : Int), .string key, .slice vo val.length vc, .int .u64 (want : Int), .int .u64 (sess : Int), .int .u64 (ticks : Int)] 39) = wb at *
  generalize hT : w.heap.size = T at *
  go_quiet (fail)
  have HQ := Lib.hid (HR.out.drewN nq)
  obtain ⟨b0, b1, b2, b3, b4, b5⟩ := cells6 HQ.out.box (Below.refl _ _)
  generalize wb.drewN nq = w0 at *
  go_wp2
  go_ret3
  rw [HD.out]
  exact Did8.none' (n := 0) rfl (Now8.same HQ.out.old (hT ▸ HQ.out.below))
-- ENDsnap
-- BEGINother
set_option maxHeartbeats 4000000 in
set_option maxRecDepth 100000 in
theorem do_other (s : St) (c : Cm) (vo : Option Addr) (vc : Nat) (sp kp bp : Nat) (cs : Array Value) (t : TypeId) (F1 F2 : List Nat) (w : World) (h : StAt w sp cs t s kp bp F1 F2) (hs : s.Wk) (hc : c.Fit) (hv : Bts w vo c.val) (hk : c.kind = 0 ∨ 7 < c.kind) :
    Calls Tryz.prog 48 #[.pointer (some ⟨sp, 0, none⟩), .agg (c.cells vo vc)] w (Did8 w sp cs t (doS s c) kp bp F1 F2) := by
  have HD := Lib.hid (show doS s c = (s, 0, [], 16) by (have g : ∀ i, 1 ≤ i → i ≤ 7 → c.kind ≠ i := fun i _ _ => by omega); simp [doS, late, g 1, g 2, g 3, g 4, g 5, g 6, g 7])
  obtain ⟨kind, key, val, want, sess, ticks⟩ := c
  have HC := Lib.hid hc
  have HV := Lib.hid hv
  dsimp only at hk
  have HR := Lib.hid (Run8.enter h (.cells (Cm.cells ⟨kind, key, val, want, sess, ticks⟩ vo vc) 39))
  have HW := Lib.hid hs
  obtain ⟨now, hnow⟩ : ∃ now, s.now = now := ⟨_, rfl⟩
  have HN := Lib.hid hnow
  have hn40 : now ≤ 1099511627776 := hnow ▸ hs.now
  have hn64 : now < 18446744073709551616 := by omega
  have k1 : ((kind : Int) == 1) = false := by simp; omega
  have k2 : ((kind : Int) == 2) = false := by simp; omega
  have k3 : ((kind : Int) == 3) = false := by simp; omega
  have k4 : ((kind : Int) == 4) = false := by simp; omega
  have k5 : ((kind : Int) == 5) = false := by simp; omega
  have k6 : ((kind : Int) == 6) = false := by simp; omega
  have k7 : ((kind : Int) == 7) = false := by simp; omega
  have j1 : ¬ ((kind : Int) = 1) := by omega
  have j2 : ¬ ((kind : Int) = 2) := by omega
  have j3 : ¬ ((kind : Int) = 3) := by omega
  have j4 : ¬ ((kind : Int) = 4) := by omega
  have j5 : ¬ ((kind : Int) = 5) := by omega
  have j6 : ¬ ((kind : Int) = 6) := by omega
  have j7 : ¬ ((kind : Int) = 7) := by omega
  clear h hs hnow hc hv
  dsimp only [Cm.cells] at *
  go_enter Tryz.func48, Tryz.ntmps48
  go_upto_region 1 with fail
  obtain ⟨a0, a1, a2, a3, a4, a5⟩ := cells6 HR.out.box (Below.refl _ _)
  generalize w.alloc (.cells #[.int .u8 (kind : Int), .string key, .slice vo val.length vc, .int .u64 (want : Int), .int .u64 (sess : Int), .int .u64 (ticks : Int)] 39) = wb at *
  generalize hT : w.heap.size = T at *
  go_quiet (fail)
  have HQ := Lib.hid (HR.out.drewN nq)
  obtain ⟨b0, b1, b2, b3, b4, b5⟩ := cells6 HQ.out.box (Below.refl _ _)
  generalize wb.drewN nq = w0 at *
  go_wp2
  go_ret3
  rw [HD.out]
  exact Did8.none' (n := 0) rfl (Now8.same HQ.out.old (hT ▸ HQ.out.below))
-- ENDother
-- BEGINclose
set_option maxHeartbeats 4000000 in
set_option maxRecDepth 100000 in
theorem do_close (s : St) (c : Cm) (vo : Option Addr) (vc : Nat) (sp kp bp : Nat) (cs : Array Value) (t : TypeId) (F1 F2 : List Nat) (w : World) (h : StAt w sp cs t s kp bp F1 F2) (hs : s.Wk) (hc : c.Fit) (hv : Bts w vo c.val) (hk : c.kind = 5) :
    Calls Tryz.prog 48 #[.pointer (some ⟨sp, 0, none⟩), .agg (c.cells vo vc)] w (Did8 w sp cs t (doS s c) kp bp F1 F2) := by
  have HD := Lib.hid (show doS s c = ({ s with l := (Ls.closeL s.l c.sess).1, ps := if (Ls.closeL s.l c.sess).2 = 0 then Tr.dropP s.ps c.sess else s.ps }, 0, [], (Ls.closeL s.l c.sess).2) by simp [doS, late, hk])
  obtain ⟨kind, key, val, want, sess, ticks⟩ := c
  have HC := Lib.hid hc
  have HV := Lib.hid hv
  dsimp only at hk
  subst hk
  have HR := Lib.hid (Run8.enter h (.cells (Cm.cells ⟨5, key, val, want, sess, ticks⟩ vo vc) 39))
  have HW := Lib.hid hs
  obtain ⟨now, hnow⟩ : ∃ now, s.now = now := ⟨_, rfl⟩
  have HN := Lib.hid hnow
  have hn40 : now ≤ 1099511627776 := hnow ▸ hs.now
  have hn64 : now < 18446744073709551616 := by omega
  have hl4 : s.l.length ≤ 4096 := Nat.le_trans hs.len (by decide)
  clear h hs hnow hc hv
  dsimp only [Cm.cells] at *
  go_enter Tryz.func48, Tryz.ntmps48
  go_upto_region 1 with fail
  obtain ⟨a0, a1, a2, a3, a4, a5⟩ := cells6 HR.out.box (Below.refl _ _)
  generalize w.alloc (.cells #[.int .u8 ((5 : Nat) : Int), .string key, .slice vo val.length vc, .int .u64 (want : Int), .int .u64 (sess : Int), .int .u64 (ticks : Int)] 39) = wb at *
  generalize hT : w.heap.size = T at *
  go_quiet (fail)
  have HQ := Lib.hid (HR.out.drewN nq)
  obtain ⟨b0, b1, b2, b3, b4, b5⟩ := cells6 HQ.out.box (Below.refl _ _)
  generalize wb.drewN nq = w0 at *
  go_upto_region 16 with fail
  have HQd := Lib.hid HQ.out.drew
  have hS2 := HQd.out.sees HN.out
  unfold Sees at hS2
  go_region_held3 (fun wx => (wx.cell? ⟨sp, 0, none⟩ = some (.int .u64 (now : Int)) ∧ wx.cell? ⟨sp, 1, none⟩ = some (.pointer (some ⟨kp, 0, none⟩)) ∧ wx.cell? ⟨sp, 2, none⟩ = some (.pointer (some ⟨bp, 0, none⟩))) ∧
      wx.cell? ⟨T, 1, none⟩ = some (.string key) ∧ wx.cell? ⟨T, 2, none⟩ = some (.slice vo val.length vc) ∧ wx.cell? ⟨T, 3, none⟩ = some (.int .u64 (want : Int)) ∧ wx.cell? ⟨T, 4, none⟩ = some (.int .u64 (sess : Int)) ∧ wx.cell? ⟨T, 5, none⟩ = some (.int .u64 (ticks : Int)))
    (first | exact hS2 | exact hS3)
    (first | (go_at_call 84; (with_reducible refine (Ls.close_all bp s.last sess s.l F2 _ HQd.out.st.book hl4).mono ?_); rintro e w1 ⟨rfl, hw1⟩; have hS3 := HQd.out.sees' HN.out hw1.choose_spec.2.1 (fun k hk => .inr hk); unfold Sees at hS3; have H1 := Lib.hid hw1; clear hw1))
  obtain ⟨G2, hm⟩ := HQd.out.mid.book H1.out
  have HM := Lib.hid hm
  clear hm hS3
  by_cases hz : (Ls.closeL s.l sess).2 = 0
  · have hzi : ((Ls.closeL s.l sess).2 == 0) = true := by simp [hz]
    rw [if_pos hz] at HD
    have HZ := Lib.hid hz
    clear hz
    go_upto_region 18 with fail
    have HMd := Lib.hid HM.out.drew
    have hS4 := HMd.out.sees HN.out
    unfold Sees at hS4
    go_region_held3 (fun wx => (wx.cell? ⟨sp, 0, none⟩ = some (.int .u64 (now : Int)) ∧ wx.cell? ⟨sp, 1, none⟩ = some (.pointer (some ⟨kp, 0, none⟩)) ∧ wx.cell? ⟨sp, 2, none⟩ = some (.pointer (some ⟨bp, 0, none⟩))) ∧
      wx.cell? ⟨T, 1, none⟩ = some (.string key) ∧ wx.cell? ⟨T, 2, none⟩ = some (.slice vo val.length vc) ∧ wx.cell? ⟨T, 3, none⟩ = some (.int .u64 (want : Int)) ∧ wx.cell? ⟨T, 4, none⟩ = some (.int .u64 (sess : Int)) ∧ wx.cell? ⟨T, 5, none⟩ = some (.int .u64 (ticks : Int)))
      (first | exact hS4 | exact hS5)
      (first | (go_at_call 85; (with_reducible refine (Tr.drop_all kp s.ps F1 sess _ HMd.out.st.tree HW.out.fine).mono ?_); rintro e w2 ⟨rfl, hw2⟩; obtain ⟨G1, hm2, -, -⟩ := HMd.out.tree hw2; have hS5 := hm2.sees HN.out; unfold Sees at hS5; have H2 := Lib.hid hm2; clear hw2 hm2))
    go_wp2
    go_ret3
    obtain rfl := HN.out
    rw [HD.out]
    exact Did8.none' (n := 0) rfl (H2.out.done (set_self HQd.out.st.at0).symm)
  · have hzi : ((Ls.closeL s.l sess).2 == 0) = false := by simp [hz]
    rw [if_neg hz] at HD
    clear hz
    go_wp2
    go_ret3
    obtain rfl := HN.out
    rw [HD.out]
    exact Did8.none' (n := 0) rfl (HM.out.done (set_self HQd.out.st.at0).symm)
-- ENDclose
-- BEGINtick
set_option maxHeartbeats 4000000 in
set_option maxRecDepth 100000 in
theorem do_tick (s : St) (c : Cm) (vo : Option Addr) (vc : Nat) (sp kp bp : Nat) (cs : Array Value) (t : TypeId) (F1 F2 : List Nat) (w : World) (h : StAt w sp cs t s kp bp F1 F2) (hs : s.Wk) (hc : c.Fit) (hv : Bts w vo c.val) (hk : c.kind = 6) :
    Calls Tryz.prog 48 #[.pointer (some ⟨sp, 0, none⟩), .agg (c.cells vo vc)] w (Did8 w sp cs t (doS s c) kp bp F1 F2) := by
  have HD := Lib.hid (show doS s c = ({ s with now := s.now + min c.ticks (1099511627776 - s.now), l := Ls.stays s.l (s.now + min c.ticks (1099511627776 - s.now)), ps := dropAll s.ps (Ls.expired s.l (s.now + min c.ticks (1099511627776 - s.now))) }, s.now + min c.ticks (1099511627776 - s.now), Ls.expired s.l (s.now + min c.ticks (1099511627776 - s.now)), 0) by simp [doS, late, hk])
  obtain ⟨kind, key, val, want, sess, ticks⟩ := c
  have HC := Lib.hid hc
  have HV := Lib.hid hv
  dsimp only at hk
  subst hk
  have HR := Lib.hid (Run8.enter h (.cells (Cm.cells ⟨6, key, val, want, sess, ticks⟩ vo vc) 39))
  have HW := Lib.hid hs
  obtain ⟨now, hnow⟩ : ∃ now, s.now = now := ⟨_, rfl⟩
  have HN := Lib.hid hnow
  have hn40 : now ≤ 1099511627776 := hnow ▸ hs.now
  have hn64 : now < 18446744073709551616 := by omega
  have hl1000 : s.l.length ≤ 1000000 := Nat.le_trans hs.len (by decide)
  clear h hs hnow hc hv
  dsimp only [Cm.cells] at *
  go_enter Tryz.func48, Tryz.ntmps48
  go_upto_region 1 with fail
  obtain ⟨a0, a1, a2, a3, a4, a5⟩ := cells6 HR.out.box (Below.refl _ _)
  generalize w.alloc (.cells #[.int .u8 ((6 : Nat) : Int), .string key, .slice vo val.length vc, .int .u64 (want : Int), .int .u64 (sess : Int), .int .u64 (ticks : Int)] 39) = wb at *
  generalize hT : w.heap.size = T at *
  go_quiet (fail)
  have HQ := Lib.hid (HR.out.drewN nq)
  obtain ⟨b0, b1, b2, b3, b4, b5⟩ := cells6 HQ.out.box (Below.refl _ _)
  generalize wb.drewN nq = w0 at *
  have HM0 := Lib.hid HQ.out.mid
  have e1 : IntKind.u64.wrap (1099511627776 - (now : Int)) = ((1099511627776 - now : Nat) : Int) := by rw [IntWalk.u64_in _ (by omega)]; omega
  obtain ⟨rest, hrest⟩ : ∃ r, 1099511627776 - now = r := ⟨_, rfl⟩
  rw [hrest] at e1
  have HRS := Lib.hid hrest
  go_upto_region 20 with fail
  obtain ⟨z0, z1, z2, zf⟩ := HQ.out.st.cell
  rw [HN.out] at z0
  clear hrest
  go_still_tail 15, (by kernel_rfl)
  repeat still_step
  have HM1 := Lib.hid HM0.out.drew
  have yf := HM1.out.st.cell.2.2.2
  have y0 := HM1.out.st.cell.1
  obtain ⟨n1, hn1⟩ : ∃ n1, now + min ticks rest = n1 := ⟨_, rfl⟩
  have hn1b : n1 ≤ 1099511627776 := by have := HRS.out; omega
  have e2 : IntKind.u64.wrap ((now : Int) + if rest < ticks then (rest : Int) else (ticks : Int)) = (n1 : Int) := by
    have := HRS.out
    split
    · rw [IntWalk.u64_in _ (by omega)]; omega
    · rw [IntWalk.u64_in _ (by omega)]; omega
  have HN1 := Lib.hid (show s.now + min ticks (1099511627776 - s.now) = n1 by rw [HN.out, HRS.out]; exact hn1)
  rw [HN1.out] at HD
  have HM2 := Lib.hid (HM0.out.now n1).drew
  clear hn1
  change wpList _ _ _ _ _ w0.drew
  go_upto_region 21 with fail
  rw [e2]
  generalize (if rest < ticks then (rest : Int) else (ticks : Int)) = mm at *
  generalize (w0.setCell ⟨sp, 0, none⟩ (.int .u64 (n1 : Int))).drew = w2 at *
  have hn164 : n1 < 18446744073709551616 := by omega
  clear z0 z1 z2 zf y0 yf e1 e2 b0 b1 b2 b3 b4 b5 a0 a1 a2 a3 a4 a5
  have HM3 := Lib.hid HM2.out.drew
  have hS2 := HM3.out.sees (now := n1) rfl
  unfold Sees at hS2
  go_region_held3 (fun wx => (wx.cell? ⟨sp, 0, none⟩ = some (.int .u64 (n1 : Int)) ∧ wx.cell? ⟨sp, 1, none⟩ = some (.pointer (some ⟨kp, 0, none⟩)) ∧ wx.cell? ⟨sp, 2, none⟩ = some (.pointer (some ⟨bp, 0, none⟩))) ∧
      wx.cell? ⟨T, 1, none⟩ = some (.string key) ∧ wx.cell? ⟨T, 2, none⟩ = some (.slice vo val.length vc) ∧ wx.cell? ⟨T, 3, none⟩ = some (.int .u64 (want : Int)) ∧ wx.cell? ⟨T, 4, none⟩ = some (.int .u64 (sess : Int)) ∧ wx.cell? ⟨T, 5, none⟩ = some (.int .u64 (ticks : Int)))
    (first | exact hS2 | exact hS3)
    (first | (go_at_call 86; (with_reducible refine (Ls.expire_any bp s.last n1 s.l F2 _ HM3.out.st.book hl1000).mono ?_); rintro e w3 ⟨uo, m, uc, rfl, ho3, hn3, hw3⟩; obtain ⟨G2, hm3⟩ := HM3.out.book hw3; have hS3 := hm3.sees (now := n1) rfl; unfold Sees at hS3; have hk4 : ∀ a, uo = some a → a.block ∉ F1 := (fun a ha hk => Nat.lt_irrefl _ (Nat.lt_of_lt_of_le (HM3.out.st.tree.lt _ hk) (hn3 a ha))); have H3 := Lib.hid (And.intro hm3 (And.intro ho3 (And.intro hn3 hk4))); clear ho3 hn3 hw3 hm3 hk4))
  have hm17 : m ≤ 16 := by have h := H3.out.2.1.len; rw [List.length_map] at h; have h2 := Ls.expired_len s.l n1; have h3 := HW.out.len; omega
  obtain ⟨gone, hgone⟩ : ∃ gone, Ls.expired s.l n1 = gone := ⟨_, rfl⟩
  rw [hgone] at H3 HD
  have HML := Lib.hid (show gone.length = m by have h := H3.out.2.1.len; rw [List.length_map] at h; omega)
  clear hgone hS3 hS2
  go_wp2
  go_loopg [145] m (fun g i wr => ∃ (k : Nat) (G1 : List Nat), g + k = m ∧ i = .int .i64 k ∧ Mid8 w wr sp (cs.setIfInBounds 0 (.int .u64 (n1 : Int))) t { now := n1, ps := dropAll s.ps (gone.take k), last := s.last, l := Ls.stays s.l n1 } kp bp F1 F2 G1 G2 T (.cells #[.int .u8 ((6 : Nat) : Int), .string key, .slice vo val.length vc, .int .u64 (want : Int), .int .u64 (sess : Int), .int .u64 (ticks : Int)] 39) ∧ Own wr 1 uo m uc (gone.map Ls.idCell) ∧ (∀ a, uo = some a → a.block ∉ G1) ∧ Tr.Fine (dropAll s.ps (gone.take k)))
  case atStart => exact ⟨0, F1, by omega, rfl, H3.out.1, H3.out.2.1, H3.out.2.2.2, HW.out.fine⟩
  case round =>
    obtain ⟨k, G1, hgk, rfl, hm, ho, hg, hf⟩ := hrel
    obtain ⟨z0, z1, z2, zf⟩ := hm.st.cell
    by_cases hk : k < m
    · obtain ⟨x, hx⟩ : ∃ x, gone[k]? = some x := ⟨_, List.getElem?_eq_getElem (by rw [HML.out]; exact hk)⟩
      obtain ⟨b, off, rfl, hb⟩ := Ls.id_at ho hx
      have hki : (k : Int) < (m : Int) := by omega
      have HRR := Lib.hid (And.intro hm (And.intro ho (And.intro hg (And.intro hf hx))))
      clear hm ho hg hf hx
      go_wp2_with (go_at_call 85; (with_reducible refine (Tr.drop_all kp _ G1 x _ HRR.out.1.st.tree HRR.out.2.2.2.1).mono ?_); rintro e w4 ⟨rfl, hw4⟩; obtain ⟨G1n, hm4, hc4, hg4⟩ := HRR.out.1.tree hw4; have H4 := Lib.hid (And.intro hm4 (And.intro hc4 hg4)); clear hw4 hm4 hc4 hg4)
      go_roundg (gk - 1)
      case measure => omega
      case rel =>
        have ht : gone.take (k + 1) = gone.take k ++ [x] := by rw [List.take_add_one, HRR.out.2.2.2.2]; rfl
        have hd : dropAll s.ps (gone.take (k + 1)) = Tr.dropP (dropAll s.ps (gone.take k)) x := by rw [ht]; simp [dropAll]
        refine ⟨k + 1, G1n, by omega, by go_num, by rw [hd]; exact H4.out.1, HRR.out.2.1.keep H4.out.2.1 (fun a ha hk2 => HRR.out.2.2.1 a ha hk2), fun a ha hk2 => ?_, by rw [hd]; exact HRR.out.2.2.2.1.drops x⟩
        rcases H4.out.2.2 _ hk2 with h | h
        · exact HRR.out.2.2.1 a ha h
        · have := (HRR.out.2.1.at_ a ha).2.1; omega
    · obtain rfl : k = m := by omega
      have HRR := Lib.hid (And.intro hm ho)
      clear hm ho hg hf
      go_wp2
      go_ret3
      rw [HD.out]
      have htk : gone.take k = gone := List.take_of_length_le (by rw [HML.out]; exact Nat.le_refl _)
      rw [htk] at HRR
      refine ⟨uo, uc, by rw [HML.out]; rfl, by rw [HML.out]; exact HRR.out.2, fun a ha => Nat.le_trans HM3.out.chg.size (H3.out.2.2.1 a ha), HRR.out.1.done rfl⟩
-- ENDtick
-- ENDDOS
theorem do_any (s : St) (c : Cm) (vo : Option Addr) (vc : Nat) (sp kp bp : Nat) (cs : Array Value) (t : TypeId) (F1 F2 : List Nat) (w : World) (h : StAt w sp cs t s kp bp F1 F2) (hs : s.Wk) (hc : c.Fit) (hv : Bts w vo c.val) :
    Calls Tryz.prog 48 #[.pointer (some ⟨sp, 0, none⟩), .agg (c.cells vo vc)] w (Did8 w sp cs t (doS s c) kp bp F1 F2) := by
  by_cases h1 : c.kind = 1
  · by_cases h0 : c.sess = 0
    · exact do_put_zero s c vo vc sp kp bp cs t F1 F2 w h hs hc hv h1 h0
    · cases hl : Ls.liveL s.l c.sess s.now with
      | true => exact do_put_live s c vo vc sp kp bp cs t F1 F2 w h hs hc hv h1 h0 hl
      | false => exact do_put_late s c vo vc sp kp bp cs t F1 F2 w h hs hc hv h1 h0 hl
  by_cases h2 : c.kind = 2
  · exact do_delete s c vo vc sp kp bp cs t F1 F2 w h hs hc hv h2
  by_cases h3 : c.kind = 3
  · exact do_open s c vo vc sp kp bp cs t F1 F2 w h hs hc hv h3
  by_cases h4 : c.kind = 4
  · by_cases h0 : c.sess = 0
    · exact do_renew_zero s c vo vc sp kp bp cs t F1 F2 w h hs hc hv h4 h0
    · cases hl : Ls.liveL s.l c.sess s.now with
      | true => exact do_renew_live s c vo vc sp kp bp cs t F1 F2 w h hs hc hv h4 h0 hl
      | false => exact do_renew_late s c vo vc sp kp bp cs t F1 F2 w h hs hc hv h4 h0 hl
  by_cases h5 : c.kind = 5
  · exact do_close s c vo vc sp kp bp cs t F1 F2 w h hs hc hv h5
  by_cases h6 : c.kind = 6
  · exact do_tick s c vo vc sp kp bp cs t F1 F2 w h hs hc hv h6
  by_cases h7 : c.kind = 7
  · exact do_snap s c vo vc sp kp bp cs t F1 F2 w h hs hc hv h7
  exact do_other s c vo vc sp kp bp cs t F1 F2 w h hs hc hv (by omega)
end Go.Proofs.YtackmgmaippajaaGreat
