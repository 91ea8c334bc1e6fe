/-
  LAYER 20: a net in memory, as messages.
-/
import Derived.Test.YtgbfpllaianeaaaClone
import Derived.Test.YtgbfpllaianeaaaOpen
import Derived.Deep.LoopGhost
import Derived.Deep.QuietTactic
import Derived.BigQuiet
import Derived.WalkSpells
import Derived.Deep.DeepCutAuto
import Derived.Deep.CutBlock
import Derived.Deep.RegionLaw
import Derived.Deep.RegionWith
import Derived.Handy
namespace Go.Proofs.Ytgbfpllaianeaaa
open Go Go.RowKit

theorem heap_top (w : World) (o : Obj) : (w.alloc o).heap[w.heap.size]? = some o := by show (w.heap.push o)[w.heap.size]? = _; simp
theorem size_alloc (w : World) (o : Obj) : (w.alloc o).heap.size = w.heap.size + 1 := by show (w.heap.push o).size = _; simp
theorem cells3 {w : World} {p : Nat} {a b c : Value} {t : TypeId} (h : w.heap[p]? = some (.cells #[a, b, c] t (0, 0))) :
    w.cell? ⟨p, 0, none⟩ = some a ∧ w.cell? ⟨p, 1, none⟩ = some b ∧ w.cell? ⟨p, 2, none⟩ = some c ∧ ∀ i, w.frozen? ⟨p, i, none⟩ = false := by
  have h0 := heap_cell h 0
  have h1 := heap_cell h 1
  have h2 := heap_cell h 2
  simp at h0 h1 h2
  exact ⟨h0, h1, h2, fun i => heap_frozen h i⟩
theorem cells1 {w : World} {p : Nat} {a : Value} {t : TypeId} (h : w.heap[p]? = some (.cells #[a] t (0, 0))) : w.cell? ⟨p, 0, none⟩ = some a ∧ ∀ i, w.frozen? ⟨p, i, none⟩ = false := by
  have h0 := heap_cell h 0
  simp at h0
  exact ⟨h0, fun i => heap_frozen h i⟩
/-- A message. -/
structure Msg where
  frm : Int
  dst : Int
  body : List UInt8
/-- A message in memory: where its bytes lie. -/
structure Ent where
  m : Msg
  bo : Option Addr
  cap : Nat
def Ent.cells (e : Ent) : List Value := [.int .i64 e.m.frm, .int .i64 e.m.dst, .slice e.bo e.m.body.length e.cap]
def Ent.val (e : Ent) : Value := .agg #[.int .i64 e.m.frm, .int .i64 e.m.dst, .slice e.bo e.m.body.length e.cap]
def Ent.At (w : World) (e : Ent) : Prop := Own w 1 e.bo e.m.body.length e.cap (e.m.body.map cb)
def blk (o : Option Addr) : List Nat := (o.map (·.block)).toList
theorem mem_blk {o : Option Addr} {k : Nat} : k ∈ blk o ↔ ∃ a, o = some a ∧ a.block = k := by
  cases o <;> simp [blk, eq_comm]
theorem el_msg : ElemOf Try.prog 31 29 (.agg #[.int .i64 0, .int .i64 0, .slice none 0 0]) 3 40 := .mk' Try.underlying31 (by kernel_rfl) rfl (by decide)
/-- The blocks of a list of messages, at an address. -/
def netF (lo : Option Addr) (es : List Ent) : List Nat := blk lo ++ es.flatMap (fun e => blk e.bo)
/-- A list of messages that is owned: with all its bytes, each in a block of its own. -/
structure MsgsAt (w : World) (lo : Option Addr) (n cap : Nat) (es : List Ent) : Prop where
  own : Own w 3 lo n cap (es.flatMap Ent.cells)
  ent : ∀ e ∈ es, e.At w
  nodup : (netF lo es).Nodup
theorem flat_len (es : List Ent) : (es.flatMap Ent.cells).length = es.length * 3 := by
  induction es with
  | nil => rfl
  | cons e es ih => rw [List.flatMap_cons, List.length_append, ih, List.length_cons]; simp [Ent.cells]; omega
theorem MsgsAt.len {w : World} {lo : Option Addr} {n cap : Nat} {es : List Ent} (h : MsgsAt w lo n cap es) : es.length = n := by
  have := h.own.len; rw [flat_len] at this; omega
theorem MsgsAt.keep {w w' : World} {lo : Option Addr} {n cap : Nat} {es : List Ent} (h : MsgsAt w lo n cap es) {S : Nat → Prop} (hc : Chg S w w') (hS : ∀ k ∈ netF lo es, ¬ S k) : MsgsAt w' lo n cap es := by
  refine ⟨h.own.keep hc (fun a ha => hS _ ?_), fun e he => (h.ent e he).keep hc (fun a ha => hS _ ?_), h.nodup⟩
  · exact List.mem_append_left _ (mem_blk.2 ⟨a, ha, rfl⟩)
  · exact List.mem_append_right _ (List.mem_flatMap.2 ⟨e, he, mem_blk.2 ⟨a, ha, rfl⟩⟩)
theorem MsgsAt.lt {w : World} {lo : Option Addr} {n cap : Nat} {es : List Ent} (h : MsgsAt w lo n cap es) : ∀ k ∈ netF lo es, k < w.heap.size := by
  intro k hk
  rcases List.mem_append.1 hk with hk | hk
  · obtain ⟨a, ha, rfl⟩ := mem_blk.1 hk
    exact (h.own.at_ a ha).2.1
  · obtain ⟨e, he, hk⟩ := List.mem_flatMap.1 hk
    obtain ⟨a, ha, rfl⟩ := mem_blk.1 hk
    exact ((h.ent e he).at_ a ha).2.1
/-- A net at block p, with the messages ms; F: its blocks. -/
def NetAt (w : World) (p : Nat) (ms : List Msg) (F : List Nat) : Prop :=
  ∃ lo n cap es, w.heap[p]? = some (.cells #[.slice lo n cap] 51 (0, 0)) ∧ MsgsAt w lo n cap es ∧ es.map Ent.m = ms ∧ p ∉ netF lo es ∧ F = p :: netF lo es
theorem NetAt.lt {w : World} {p : Nat} {ms : List Msg} {F : List Nat} (h : NetAt w p ms F) : ∀ k ∈ F, k < w.heap.size := by
  obtain ⟨lo, n, cap, es, h1, h2, h3, h4, rfl⟩ := h
  intro k hk
  rcases List.mem_cons.1 hk with rfl | hk
  · exact heap_lt h1
  · exact h2.lt k hk
theorem NetAt.keep {w w' : World} {p : Nat} {ms : List Msg} {F : List Nat} (h : NetAt w p ms F) {S : Nat → Prop} (hc : Chg S w w') (hS : ∀ k ∈ F, ¬ S k) : NetAt w' p ms F := by
  obtain ⟨lo, n, cap, es, h1, h2, h3, h4, rfl⟩ := h
  exact ⟨lo, n, cap, es, hc.heap h1 (hS p (by simp)), h2.keep hc (fun k hk => hS k (by simp [hk])), h3, h4, rfl⟩
theorem NetAt.p_mem {w : World} {p : Nat} {ms : List Msg} {F : List Nat} (h : NetAt w p ms F) : p ∈ F := by
  obtain ⟨lo, n, cap, es, h1, h2, h3, h4, rfl⟩ := h
  simp
theorem NetAt.below {w w' : World} {p : Nat} {ms : List Msg} {F : List Nat} (h : NetAt w p ms F) (hb : Below w.heap.size w w') : NetAt w' p ms F := h.keep (Chg.of_below hb (fun _ => False)) (fun _ _ h => h)
/-- What comes of a call on a thing with the blocks F: it has F' now. -/
def Grew (w : World) (F F' : List Nat) : Prop := ∀ k ∈ F', k ∈ F ∨ w.heap.size ≤ k

theorem new_any (w : World) : Calls Try.prog 9 #[] w fun e w' => e = .returned (.pointer (some ⟨w.heap.size, 0, none⟩)) ∧ Below w.heap.size w w' ∧ NetAt w' w.heap.size [] [w.heap.size] := by
  go_enter Try.func9, Try.ntmps9
  go_wp2
  go_ret
  exact ⟨rfl, (Below.refl _ w).alloc (Nat.le_refl _) _, none, 0, 0, [], heap_top _ _, ⟨Own.nil' _ _, by simp, by simp [netF, blk]⟩, rfl, by simp [netF, blk], by simp [netF, blk]⟩
set_option maxHeartbeats 1000000 in
theorem copied_any (f t : Int) (ao : Option Addr) (n c : Nat) (bs : List UInt8) (w : World) (hl : bs.length = n) (hn : n ≤ 140737488351232) (hc : Bts w ao bs) :
    Calls Try.prog 17 #[.agg #[.int .i64 f, .int .i64 t, .slice ao n c]] w fun e w' => ∃ bo cap, e = .returned (.agg #[.int .i64 f, .int .i64 t, .slice bo n cap]) ∧ Below w.heap.size w w' ∧ Own w' 1 bo n cap (bs.map cb) ∧ ∀ a, bo = some a → w.heap.size ≤ a.block := by
  have HC := Lib.hid (And.intro hc hl)
  clear hc hl
  go_enter Try.func17, Try.ntmps17
  have h1 := heap_new (o := .cells #[.int .i64 0, .int .i64 0, .slice none 0 0] 29) (heap_top w (.cells #[.int .i64 f, .int .i64 t, .slice ao n c] 29))
  have h2 := heap_top (w.alloc (.cells #[.int .i64 f, .int .i64 t, .slice ao n c] 29)) (.cells #[.int .i64 0, .int .i64 0, .slice none 0 0] 29)
  rw [size_alloc] at h2
  have hb := ((Below.refl _ w).alloc (Nat.le_refl _) (.cells #[.int .i64 f, .int .i64 t, .slice ao n c] 29)).alloc (by rw [size_alloc]; omega) (.cells #[.int .i64 0, .int .i64 0, .slice none 0 0] 29)
  have HH := Lib.hid (And.intro h1 (And.intro h2 hb))
  clear h1 h2 hb
  go_wp2_with (go_at_call 21; (with_reducible refine (clone_any ao n c bs _ HC.out.2 hn (HC.out.1.below HH.out.2.2)).mono ?_); rintro e1 w1 ⟨bo, cap, rfl, hb, ho, hx⟩; have g1 := (Chg.of_below hb (fun _ => False)).heap HH.out.1 (fun h => h); have g2 := (Chg.of_below hb (fun _ => False)).heap HH.out.2.1 (fun h => h); obtain ⟨x0, x1, x2, x3⟩ := cells3 g1; obtain ⟨y0, y1, y2, y3⟩ := cells3 g2; have H1 := Lib.hid (And.intro hb (And.intro ho (And.intro hx g2))); clear hb ho hx g1 g2)
  obtain ⟨z0, z1, z2, _⟩ := cells3 (heap_set (heap_set (heap_set (heap_far (a := ⟨w.heap.size, 2, none⟩) H1.out.2.2.2 (by simp) (.slice bo n cap)) 0 (.int .i64 f)) 1 (.int .i64 t)) 2 (.slice bo n cap))
  refine bodyPost_ret (v := .agg #[.int .i64 f, .int .i64 t, .slice bo n cap]) (by simp [results, Try.results17, go_sem, z0, z1, z2]) rfl ?_
  have hs := HH.out.2.2.size
  have hch : Chg (fun k => k = w.heap.size ∨ k = w.heap.size + 1) w1 _ := ((((Chg.refl (fun k => k = w.heap.size ∨ k = w.heap.size + 1) w1).set (Or.inl rfl) 2 (.slice bo n cap)).set (Or.inr rfl) 0 (.int .i64 f)).set (Or.inr rfl) 1 (.int .i64 t)).set (Or.inr rfl) 2 (.slice bo n cap)
  have hsz : w.heap.size + 2 ≤ ((w.alloc (.cells #[.int .i64 f, .int .i64 t, .slice ao n c] 29)).alloc (.cells #[.int .i64 0, .int .i64 0, .slice none 0 0] 29)).heap.size := by rw [size_alloc, size_alloc]; omega
  have hb1 : Below w.heap.size w w1 := HH.out.2.2.trans (H1.out.1.mono hs)
  exact ⟨bo, cap, rfl, hb1.trans (hch.below hb1.size (by rintro k (h | h) <;> omega)), H1.out.2.1.keep hch (fun a ha => by have := H1.out.2.2.1 a ha; omega), fun a ha => by have := H1.out.2.2.1 a ha; omega⟩
theorem send_nil (v : Value) (f t : Int) (ao : Option Addr) (n c : Nat) (w : World) (hv : v = .agg #[.int .i64 f, .int .i64 t, .slice ao n c]) :
    Calls Try.prog 10 #[.pointer none, v] w fun e w' => e = .returned (.int .i64 1) ∧ Below w.heap.size w w' := by
  subst hv
  go_enter Try.func10, Try.ntmps10
  go_wp2
  go_ret
  exact ⟨rfl, (Below.refl _ w).alloc (Nat.le_refl _) _⟩
theorem send_long (p : Nat) (f t : Int) (ao : Option Addr) (n c : Nat) (w : World) (hn : 4096 < n) :
    Calls Try.prog 10 #[.pointer (some ⟨p, 0, none⟩), .agg #[.int .i64 f, .int .i64 t, .slice ao n c]] w fun e w' => e = .returned (.int .i64 3) ∧ Below w.heap.size w w' := by
  go_enter Try.func10, Try.ntmps10
  go_wp2
  go_ret
  exact ⟨rfl, (Below.refl _ w).alloc (Nat.le_refl _) _⟩
set_option maxRecDepth 100000 in
theorem send_full (p : Nat) (ms : List Msg) (F : List Nat) (f t : Int) (ao : Option Addr) (n c : Nat) (w : World) (hn : n ≤ 4096) (h : NetAt w p ms F) (hm : 4096 ≤ ms.length) :
    Calls Try.prog 10 #[.pointer (some ⟨p, 0, none⟩), .agg #[.int .i64 f, .int .i64 t, .slice ao n c]] w fun e w' => e = .returned (.int .i64 8) ∧ Below w.heap.size w w' := by
  obtain ⟨lo, k, cap, es, h1, h2, rfl, h4, rfl⟩ := h
  have z1 := heap_cell (heap_new (o := .cells #[.int .i64 f, .int .i64 t, .slice ao n c] 29) h1) 0
  simp at z1
  have hk : 4096 ≤ k := by rw [← h2.len]; simpa using hm
  clear h1 h2 hm h4
  go_enter Try.func10, Try.ntmps10
  go_wp2
  go_ret
  exact ⟨rfl, (Below.refl _ w).alloc (Nat.le_refl _) _⟩
theorem msg_one (e : Ent) : ∀ u ∈ e.cells, u.oneCell' = true := by
  intro u hu
  simp [Ent.cells] at hu
  rcases hu with rfl | rfl | rfl <;> rfl
/-- A message more. -/
theorem MsgsAt.snoc {w w' : World} {lo lo' : Option Addr} {n cap cap' : Nat} {es : List Ent} {e : Ent} (h : MsgsAt w lo n cap es) (ho : Own w' 3 lo' (n + 1) cap' (es.flatMap Ent.cells ++ e.cells)) (hc : Chg (fun k => ∃ a, lo = some a ∧ a.block = k) w w')
    (he : e.At w) (hlo : ∀ a', lo' = some a' → lo = some a' ∨ w.heap.size ≤ a'.block) (hn : ∀ a, e.bo = some a → a.block ∉ netF lo es) : MsgsAt w' lo' (n + 1) cap' (es ++ [e]) ∧ (∀ k ∈ netF lo' (es ++ [e]), k ∈ netF lo es ∨ k ∈ blk e.bo ∨ w.heap.size ≤ k) := by
  have hsub : ∀ k ∈ netF lo' (es ++ [e]), k ∈ netF lo es ∨ k ∈ blk e.bo ∨ w.heap.size ≤ k := by
    intro k hk
    simp only [netF, List.flatMap_append, List.mem_append, List.flatMap_cons, List.flatMap_nil, List.append_nil] at hk ⊢
    rcases hk with hk | hk | hk
    · obtain ⟨a, ha, rfl⟩ := mem_blk.1 hk
      rcases hlo a ha with h | h
      · exact .inl (.inl (mem_blk.2 ⟨a, h, rfl⟩))
      · exact .inr (.inr h)
    · exact .inl (.inr hk)
    · exact .inr (.inl hk)
  have hnd := h.nodup
  have hent : ∀ x ∈ es, ∀ a, x.bo = some a → a.block < w.heap.size ∧ ∀ b, lo = some b → a.block ≠ b.block := by
    intro x hx a ha
    refine ⟨((h.ent x hx).at_ a ha).2.1, fun b hb e => ?_⟩
    rw [netF, List.nodup_append] at hnd
    exact hnd.2.2 b.block (mem_blk.2 ⟨b, hb, rfl⟩) a.block (List.mem_flatMap.2 ⟨x, hx, mem_blk.2 ⟨a, ha, rfl⟩⟩) e.symm
  refine ⟨⟨by rw [List.flatMap_append]; simpa using ho, ?_, ?_⟩, hsub⟩
  · intro x hx
    rcases List.mem_append.1 hx with hx | hx
    · exact (h.ent x hx).keep hc (fun a ha ⟨b, hb, e⟩ => (hent x hx a ha).2 b hb e.symm)
    · simp at hx; subst hx
      exact he.keep hc (fun a ha ⟨b, hb, e⟩ => hn a ha (List.mem_append_left _ (mem_blk.2 ⟨b, hb, e⟩)))
  · simp only [netF, List.flatMap_append, List.flatMap_cons, List.flatMap_nil, List.append_nil]
    rw [netF, List.nodup_append] at hnd
    obtain ⟨n1, n2, n3⟩ := hnd
    have hb1 : ∀ o : Option Addr, (blk o).Nodup := fun o => by cases o <;> simp [blk]
    rw [List.nodup_append]
    refine ⟨hb1 _, ?_, ?_⟩
    · rw [List.nodup_append]
      refine ⟨n2, hb1 _, fun x hx y hy hxy => ?_⟩
      obtain ⟨a, ha, rfl⟩ := mem_blk.1 hy
      exact hn a ha (List.mem_append_right _ (hxy ▸ hx))
    · intro x hx y hy hxy
      subst hxy
      obtain ⟨a, ha, rfl⟩ := mem_blk.1 hx
      rcases hlo a ha with hl | hl
      · rcases List.mem_append.1 hy with hy | hy
        · exact n3 _ (mem_blk.2 ⟨a, hl, rfl⟩) _ hy rfl
        · obtain ⟨b, hb, e⟩ := mem_blk.1 hy
          exact hn b hb (List.mem_append_left _ (mem_blk.2 ⟨a, hl, e.symm⟩))
      · rcases List.mem_append.1 hy with hy | hy
        · obtain ⟨z, hz, hy⟩ := List.mem_flatMap.1 hy
          obtain ⟨b, hb, e⟩ := mem_blk.1 hy
          have := (hent z hz b hb).1
          omega
        · obtain ⟨b, hb, e⟩ := mem_blk.1 hy
          have := (he.at_ b hb).2.1
          omega
theorem send_end {w wB w2 : World} {p : Nat} {lo xo : Option Addr} {k cap xc : Nat} {es : List Ent} {e : Ent} (hB : Below w.heap.size w wB) (h1 : w.heap[p]? = some (.cells #[.slice lo k cap] 51 (0, 0))) (h2 : MsgsAt w lo k cap es) (hp : p ∉ netF lo es)
    (hbo : ∀ a, e.bo = some a → w.heap.size ≤ a.block) (heB : e.At wB) (hx : Own w2 3 xo (k + 1) xc (es.flatMap Ent.cells ++ e.cells)) (hch : Chg (fun k => ∃ a, lo = some a ∧ a.block = k) wB w2) (hx2 : ∀ a', xo = some a' → lo = some a' ∨ wB.heap.size ≤ a'.block) :
    ∃ F', NetAt (w2.setCell ⟨p, 0, none⟩ (.slice xo (k + 1) xc)) p (es.map Ent.m ++ [e.m]) F' ∧ Chg (· ∈ p :: netF lo es) w (w2.setCell ⟨p, 0, none⟩ (.slice xo (k + 1) xc)) ∧ Grew w (p :: netF lo es) F' := by
  have hS : ∀ j, (∃ a, lo = some a ∧ a.block = j) → j ∈ netF lo es := fun j ⟨a, ha, e⟩ => List.mem_append_left _ (mem_blk.2 ⟨a, ha, e⟩)
  have hpB := (Chg.of_below hB (fun _ => False)).heap h1 (fun h => h)
  have hmB := h2.keep (Chg.of_below hB (fun _ => False)) (fun _ _ h => h)
  obtain ⟨hm, hF⟩ := hmB.snoc hx hch heB hx2 (fun a ha hF => by have := hbo a ha; have := h2.lt _ hF; omega)
  have hp2 := hch.heap hpB (fun h => hp (hS _ h))
  have hpF : p ∉ netF xo (es ++ [e]) := by
    intro h
    rcases hF p h with h | h | h
    · exact hp h
    · obtain ⟨a, ha, e⟩ := mem_blk.1 h
      have := hbo a ha; have := heap_lt h1; omega
    · have := heap_lt hpB; omega
  refine ⟨p :: netF xo (es ++ [e]), ⟨xo, k + 1, xc, es ++ [e], heap_set hp2 0 _, hm.keep (Chg.one w2 p 0 _) (fun k hk e => hpF (e ▸ hk)), by simp, hpF, rfl⟩, ?_, ?_⟩
  · exact ((Chg.of_below hB (· ∈ p :: netF lo es)).trans hch (fun i _ h => List.mem_cons_of_mem _ (hS i h))).set (by simp) 0 _
  · intro j hj
    rcases List.mem_cons.1 hj with rfl | hj
    · exact .inl (by simp)
    · rcases hF j hj with h | h | h
      · exact .inl (List.mem_cons_of_mem _ h)
      · obtain ⟨a, ha, e⟩ := mem_blk.1 h
        exact .inr (e ▸ hbo a ha)
      · exact .inr (Nat.le_trans hB.size h)
theorem send_copied {w wa w1 : World} {p : Nat} {lo bo : Option Addr} {k cap cc : Nat} {es : List Ent} {f t : Int} {bs : List UInt8} (hwa : Below w.heap.size w wa) (hb : Below wa.drew.heap.size wa.drew w1) (h1 : w.heap[p]? = some (.cells #[.slice lo k cap] 51 (0, 0))) (h2 : MsgsAt w lo k cap es)
    (ho : Own w1 1 bo bs.length cc (bs.map cb)) (hx : ∀ a, bo = some a → wa.drew.heap.size ≤ a.block) :
    (w1.alloc (.cells #[.int .i64 f, .int .i64 t, .slice bo bs.length cc] 29)).heap[p]? = some (.cells #[.slice lo k cap] 51 (0, 0)) ∧
    Below w.heap.size w (w1.alloc (.cells #[.int .i64 f, .int .i64 t, .slice bo bs.length cc] 29)) ∧
    ((∀ a, (Ent.mk ⟨f, t, bs⟩ bo cc).bo = some a → w.heap.size ≤ a.block) ∧ (Ent.mk ⟨f, t, bs⟩ bo cc).At (w1.alloc (.cells #[.int .i64 f, .int .i64 t, .slice bo bs.length cc] 29))) ∧
    Own (w1.alloc (.cells #[.int .i64 f, .int .i64 t, .slice bo bs.length cc] 29)) 3 lo k cap (es.flatMap Ent.cells) ∧
    (Ent.mk ⟨f, t, bs⟩ bo cc).cells.length = 1 * 3 ∧
    Row (w1.alloc (.cells #[.int .i64 f, .int .i64 t, .slice bo bs.length cc] 29)) (some ⟨w1.heap.size, 0, none⟩) (Ent.mk ⟨f, t, bs⟩ bo cc).cells := by
  have hb1 : Below w.heap.size w w1 := (hwa.drew).trans (hb.mono hwa.size)
  have hb2 := hb1.alloc hb1.size (.cells #[.int .i64 f, .int .i64 t, .slice bo bs.length cc] 29)
  have hC := Chg.of_below hb2 (fun _ => False)
  have hN := (Chg.refl (fun _ => False) w1).alloc (.cells #[.int .i64 f, .int .i64 t, .slice bo bs.length cc] 29)
  exact ⟨hC.heap h1 (fun h => h), hb2, ⟨fun a ha => Nat.le_trans hwa.size (hx a ha), ho.keep hN (fun _ _ h => h)⟩, h2.own.keep hC (fun _ _ h => h), rfl, Row.alloc w1 _ _ _⟩
set_option maxHeartbeats 1000000 in
set_option maxRecDepth 100000 in
theorem send_any (p : Nat) (ms : List Msg) (F : List Nat) (f t : Int) (ao : Option Addr) (n c : Nat) (bs : List UInt8) (w : World) (hn : n ≤ 4096) (hl : bs.length = n) (hb : Bts w ao bs) (h : NetAt w p ms F) (hm : ms.length < 4096) :
    Calls Try.prog 10 #[.pointer (some ⟨p, 0, none⟩), .agg #[.int .i64 f, .int .i64 t, .slice ao n c]] w fun e w' => e = .returned (.int .i64 0) ∧ ∃ F', NetAt w' p (ms ++ [⟨f, t, bs⟩]) F' ∧ Chg (· ∈ F) w w' ∧ Grew w F F' := by
  obtain ⟨lo, k, cap, es, h1, h2, rfl, h4, hF⟩ := h
  have HF := Lib.hid hF
  clear hF
  subst hl
  have hk : k < 4096 := by rw [← h2.len]; simpa using hm
  have hbw := (Below.refl _ w).alloc (Nat.le_refl _) (.cells #[.int .i64 f, .int .i64 t, .slice ao bs.length c] 29)
  have h1' := heap_new (o := .cells #[.int .i64 f, .int .i64 t, .slice ao bs.length c] 29) h1
  have h3' := heap_top w (.cells #[.int .i64 f, .int .i64 t, .slice ao bs.length c] 29)
  obtain ⟨x0, x1, x2, x3⟩ := cells3 h3'
  have z1 := heap_cell h1' 0
  have z2 := heap_frozen h1' 0
  simp at z1
  have HH := Lib.hid (And.intro h1 (And.intro h2 (And.intro h4 (And.intro hb (And.intro hbw (And.intro h1' h3'))))))
  clear h1 h2 h4 hb hbw h1' h3' hm
  go_enter Try.func10, Try.ntmps10
  go_wp2
  generalize w.alloc (.cells #[.int .i64 f, .int .i64 t, .slice ao bs.length c] 29) = wa at *
  have y0 : wa.drew.cell? ⟨w.heap.size, 0, none⟩ = some (.int .i64 f) := x0
  have y1 : wa.drew.cell? ⟨w.heap.size, 1, none⟩ = some (.int .i64 t) := x1
  have y2 : wa.drew.cell? ⟨w.heap.size, 2, none⟩ = some (.slice ao bs.length c) := x2
  have zd : wa.drew.cell? ⟨p, 0, none⟩ = some (.slice lo k cap) := z1
  have HCP := Lib.hid (copied_any f t ao bs.length c bs wa.drew rfl (by omega) ((HH.out.2.2.2.1.below HH.out.2.2.2.2.1).drew))
  clear z1 z2 x0 x1 x2 x3
  go_region_law (first
    | (refine step_append' rfl (.tmp 24) (.tmp 27) el_msg rfl rfl rfl H1.out.2.2.2.1 H1.out.2.2.2.2.1 H1.out.2.2.2.2.2 (msg_one ⟨⟨f, t, bs⟩, bo, cc⟩) (by unfold maxLen; omega) (by omega) ?_; intro xo xc w2 hx hch _ hx2; have hp2 := hch.heap H1.out.1 (fun ⟨a, ha, e⟩ => HH.out.2.2.1 (List.mem_append_left _ (mem_blk.2 ⟨a, ha, e⟩))); have v1 := heap_cell hp2 0; have v2 := heap_frozen hp2 0; simp at v1; have HE := Lib.hid (send_end H1.out.2.1 HH.out.1 HH.out.2.1 HH.out.2.2.1 (e := ⟨⟨f, t, bs⟩, bo, cc⟩) H1.out.2.2.1.1 H1.out.2.2.1.2 hx hch hx2); clear hx hch hx2 hp2)
    | (go_simp; go_at_call 17; (with_reducible refine HCP.out.mono ?_); rintro e1 w1 ⟨bo, cc, rfl, hb1, ho1, hx1⟩; have H1 := Lib.hid (send_copied (f := f) (t := t) HH.out.2.2.2.2.1 hb1 HH.out.1 HH.out.2.1 ho1 hx1); have u1 := heap_cell ((Chg.of_below hb1 (fun _ => False)).heap (w := wa.drew) HH.out.2.2.2.2.2.1 (fun h => h)) 0; simp at u1; obtain ⟨u2, _⟩ := cells1 H1.out.1; clear hb1 ho1 hx1))
  all_goals (go_wp2; go_ret; have hE := HE.out; rw [← HF.out] at hE; exact ⟨rfl, hE⟩)
end Go.Proofs.Ytgbfpllaianeaaa
