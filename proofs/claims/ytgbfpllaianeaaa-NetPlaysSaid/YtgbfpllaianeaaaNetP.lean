/-
  LAYER 20: a net and a list of messages beside it.
-/
import Derived.Test.YtgbfpllaianeaaaNetS
import Derived.Test.YtgbfpllaianeaaaNetN
import Derived.Test.YtgbfpllaianeaaaNetW
import Derived.Deep.CutBlock
import Derived.Deep.RegionHeld3
namespace Go.Proofs.Ytgbfpllaianeaaa
open Go Go.RowKit

/-- A net of the call's own, and a list of messages whose bytes lie in what the call was given. -/
structure Two (w0 w : World) (p : Nat) (ms : List Msg) (lo : Option Addr) (n cap : Nat) (es : List Ent) (F : List Nat) : Prop where
  net : NetIn w0 w p ms F
  own : Own w 3 lo n cap (es.flatMap Ent.cells)
  at_ : ∀ a, lo = some a → w0.heap.size ≤ a.block ∧ a.block ∉ F
  bod : ∀ e ∈ es, Bts w0 e.bo e.m.body
section
variable {w0 w w' : World} {p : Nat} {ms : List Msg} {lo : Option Addr} {n cap : Nat} {es : List Ent} {F : List Nat}
theorem Two.len (h : Two w0 w p ms lo n cap es F) : es.length = n := by
  have := h.own.len; rw [flat_len] at this; omega
theorem Two.keep (h : Two w0 w p ms lo n cap es F) {S : Nat → Prop} (hc : Chg S w w') (hF : ∀ k ∈ F, ¬ S k) (hl : ∀ a, lo = some a → ¬ S a.block) (hb : ∀ k, S k → w0.heap.size ≤ k) : Two w0 w' p ms lo n cap es F :=
  ⟨h.net.keep hc hF hb, h.own.keep hc hl, h.at_, h.bod⟩
theorem Two.stays (h : Two w0 w p ms lo n cap es F) (hb : Below w.heap.size w w') : Two w0 w' p ms lo n cap es F :=
  h.keep (Chg.of_below hb (fun _ => False)) (fun _ _ h => h) (fun _ _ h => h) (fun _ h => h.elim)
theorem Two.alloc (h : Two w0 w p ms lo n cap es F) (o : Obj) : Two w0 (w.alloc o) p ms lo n cap es F := h.stays ((Below.refl _ w).alloc (Nat.le_refl _) o)
theorem Two.drew (h : Two w0 w p ms lo n cap es F) : Two w0 w.drew p ms lo n cap es F := h.stays (Below.refl _ w).drew
theorem Two.wrote (h : Two w0 w p ms lo n cap es F) {ms' : List Msg} {F' : List Nat} (hn : NetAt w' p ms' F') (hc : Chg (· ∈ F) w w') (hg : Grew w F F') : Two w0 w' p ms' lo n cap es F' := by
  refine ⟨h.net.wrote hn hc hg, h.own.keep hc (fun a ha => (h.at_ a ha).2), fun a ha => ⟨(h.at_ a ha).1, fun hk => ?_⟩, h.bod⟩
  rcases hg _ hk with hk | hk
  · exact (h.at_ a ha).2 hk
  · have := (h.own.at_ a ha).2.1; omega
theorem Two.more (h : Two w0 w p ms lo n cap es F) {lo' : Option Addr} {n' cap' : Nat} {es' : List Ent} (ho : Own w' 3 lo' n' cap' (es'.flatMap Ent.cells)) (hc : Chg (fun k => ∃ a, lo = some a ∧ a.block = k) w w') (hx : ∀ a', lo' = some a' → lo = some a' ∨ w.heap.size ≤ a'.block)
    (hb : ∀ e ∈ es', Bts w0 e.bo e.m.body) : Two w0 w' p ms lo' n' cap' es' F := by
  have hnet := h.net.keep hc (fun k hk ⟨a, ha, e⟩ => (h.at_ a ha).2 (e ▸ hk)) (fun k ⟨a, ha, e⟩ => e ▸ (h.at_ a ha).1)
  refine ⟨hnet, ho, fun a ha => ?_, hb⟩
  rcases hx a ha with hl | hl
  · exact h.at_ a hl
  · exact ⟨Nat.le_trans h.net.below.size hl, fun hk => by have := h.net.net.lt _ hk; omega⟩
theorem Two.fresh (h : Two w0 w p ms lo n cap es F) {lo' : Option Addr} {n' cap' : Nat} {es' : List Ent} (ho : Own w' 3 lo' n' cap' (es'.flatMap Ent.cells)) (hc : Below w.heap.size w w') (hx : ∀ a', lo' = some a' → w.heap.size ≤ a'.block)
    (hb : ∀ e ∈ es', Bts w0 e.bo e.m.body) : Two w0 w' p ms lo' n' cap' es' F :=
  ⟨h.net.stays hc, ho, fun a ha => ⟨Nat.le_trans h.net.below.size (hx a ha), fun hk => by have := h.net.net.lt _ hk; have := hx a ha; omega⟩, hb⟩
theorem Two.row (h : Two w0 w p ms lo n cap es F) : MsgsRow w lo es := ⟨h.own.row, fun e he => (h.bod e he).below h.net.below⟩
end
theorem MsgsAt.rows {w : World} {lo : Option Addr} {n cap : Nat} {es : List Ent} (h : MsgsAt w lo n cap es) : MsgsRow w lo es := ⟨h.own.row, fun e he => (h.ent e he).bts⟩
/-- One message, laid anew. -/
theorem one_row (w : World) (e : Ent) (hb : Bts w e.bo e.m.body) : MsgsRow (w.alloc (.cells #[.int .i64 e.m.frm, .int .i64 e.m.dst, .slice e.bo e.m.body.length e.cap] 29)) (some ⟨w.heap.size, 0, none⟩) [e] := by
  have hb2 : Below w.heap.size w (w.alloc (.cells #[.int .i64 e.m.frm, .int .i64 e.m.dst, .slice e.bo e.m.body.length e.cap] 29)) := (Below.refl _ w).alloc (Nat.le_refl _) _
  refine ⟨?_, fun x hx => ?_⟩
  · have := Row.alloc w #[.int .i64 e.m.frm, .int .i64 e.m.dst, .slice e.bo e.m.body.length e.cap] 29 (0, 0)
    simpa [Ent.cells] using this
  · rw [List.mem_singleton] at hx; subst hx; exact hb.below hb2
/-- What holds at a round's head. -/
def HeadIs (w0 wr : World) (p k : Nat) (v : Value) : Prop :=
  ∃ ms lo n cap es F, v = .slice lo n cap ∧ Two w0 wr p ms lo n cap es F ∧ es.map Ent.m = ms ∧ n ≤ k ∧ ∀ m ∈ ms, m.body.length ≤ 4096
/-- One message more on the list. -/
theorem app_one {w wx w' : World} {p : Nat} {ms : List Msg} {lo lo' : Option Addr} {n cap cap' : Nat} {es : List Ent} {F : List Nat} {e : Ent} {o : Obj} (h : Two w wx p ms lo n cap es F) (he : Bts w e.bo e.m.body)
    (ho : Own w' 3 lo' (n + 1) cap' (es.flatMap Ent.cells ++ e.cells)) (hc : Chg (fun k => ∃ a, lo = some a ∧ a.block = k) (wx.alloc o) w') (hx : ∀ a', lo' = some a' → lo = some a' ∨ (wx.alloc o).heap.size ≤ a'.block) : Two w w' p ms lo' (n + 1) cap' (es ++ [e]) F := by
  refine (h.alloc o).more (by rw [List.flatMap_append]; simpa using ho) hc hx (fun x hx => ?_)
  rcases List.mem_append.1 hx with hx | hx
  · exact h.bod x hx
  · rw [List.mem_singleton] at hx; subst hx; exact he
theorem own_empty (w : World) (o : Obj) (t : TypeId) : Own ((w.alloc o).alloc (.cells #[] t)) 1 (some ⟨w.heap.size + 1, 0, none⟩) 0 0 [] := by
  rw [← size_alloc w o]; exact Own.alloc0 _ 1 _ _
/-- Behind a message's sending: its own bytes lie at 'so'. -/
structure Sent (w wx : World) (p : Nat) (ms : List Msg) (lo : Option Addr) (n cap : Nat) (es : List Ent) (F : List Nat) (T : Nat) (oT : Obj) (M : Nat) (f d : Int) (so : Option Addr) (L sc : Nat) (l : List UInt8) : Prop where
  two : Two w wx p ms lo n cap es F
  t : wx.heap[T]? = some oT
  m : wx.heap[M]? = some (.cells #[.int .i64 f, .int .i64 d, .slice so L sc] 29 (0, 0))
  own : Own wx 1 so L sc (l.map cb)
  at_ : ∀ a, so = some a → a.block ∉ F ∧ (∀ b, lo = some b → b.block ≠ a.block) ∧ a.block ≠ T ∧ a.block ≠ M ∧ w.heap.size ≤ a.block
  out : T ∉ F ∧ M ∉ F
theorem Sent.pre {w wc w4 : World} {p : Nat} {ms : List Msg} {lo : Option Addr} {n cap : Nat} {es : List Ent} {F : List Nat} {T : Nat} {oT E : Obj} {f d : Int} {ao so : Option Addr} {L ac sc : Nat} {ys : List UInt8}
    (h : Two w wc p ms lo n cap es F) (hT : wc.heap[T]? = some oT) (hTF : T ∉ F) (ho : Own w4 1 so L sc (ys.map cb))
    (hch : Chg (fun k => ∃ a, some (⟨wc.heap.size + 1, 0, none⟩ : Addr) = some a ∧ a.block = k) ((wc.alloc (.cells #[.int .i64 f, .int .i64 d, .slice ao L ac] 29)).alloc E) w4)
    (hx2 : ∀ a', so = some a' → some (⟨wc.heap.size + 1, 0, none⟩ : Addr) = some a' ∨ ((wc.alloc (.cells #[.int .i64 f, .int .i64 d, .slice ao L ac] 29)).alloc E).heap.size ≤ a'.block) :
    Sent w (w4.setCell ⟨wc.heap.size, 2, none⟩ (.slice so L sc)) p ms lo n cap es F T oT wc.heap.size f d so L sc ys ∧ w4.heap[wc.heap.size]? = some (.cells #[.int .i64 f, .int .i64 d, .slice ao L ac] 29 (0, 0)) := by
  rw [← size_alloc wc (.cells #[.int .i64 f, .int .i64 d, .slice ao L ac] 29)] at hch hx2
  have hb4 := chg_new (Below.refl _ _) hch
  have hn4 := new_blk (Below.refl _ _) hx2
  rw [size_alloc] at hn4
  have ht4 := (h.alloc (.cells #[.int .i64 f, .int .i64 d, .slice ao L ac] 29)).stays hb4
  have hM4 := (Chg.of_below hb4 (fun _ => False)).heap (heap_top wc (.cells #[.int .i64 f, .int .i64 d, .slice ao L ac] 29)) (fun h => h)
  have hT4 := (Chg.of_below hb4 (fun _ => False)).heap (heap_new hT) (fun h => h)
  have hTl := heap_lt hT
  have hMF : wc.heap.size ∉ F := fun hk => Nat.lt_irrefl _ (h.net.net.lt _ hk)
  have hMl : ∀ a, lo = some a → a.block < wc.heap.size := fun a ha => (h.own.at_ a ha).2.1
  have hw := h.net.below.size
  have hs := Chg.one w4 wc.heap.size 2 (.slice so L sc)
  refine ⟨⟨ht4.keep hs (fun k hk e => hMF (e ▸ hk)) (fun a ha e => by have := hMl a ha; omega) (by rintro k rfl; exact hw), hs.heap hT4 (fun e => by omega), heap_set hM4 2 _, ho.keep hs (fun a ha e => by have := hn4 a ha; omega), fun a ha => ?_, hTF, hMF⟩, hM4⟩
  have h1 := hn4 a ha
  refine ⟨fun hk => by have := h.net.net.lt _ hk; omega, fun b hb e => by have := hMl b hb; omega, by omega, by omega, by omega⟩
section
variable {w wx wy : World} {p : Nat} {ms : List Msg} {lo : Option Addr} {n cap : Nat} {es : List Ent} {F : List Nat} {T : Nat} {oT : Obj} {M : Nat} {f d : Int} {so : Option Addr} {L sc : Nat} {l : List UInt8}
theorem Sent.wrote (h : Sent w wx p ms lo n cap es F T oT M f d so L sc l) {ms' : List Msg} {F' : List Nat} (hn : NetAt wy p ms' F') (hc : Chg (· ∈ F) wx wy) (hg : Grew wx F F') : Sent w wy p ms' lo n cap es F' T oT M f d so L sc l := by
  have hout : ∀ j, j < wx.heap.size → j ∉ F → j ∉ F' := fun j hj hF hk => (hg _ hk).elim hF (fun h => by omega)
  refine ⟨h.two.wrote hn hc hg, hc.heap h.t h.out.1, hc.heap h.m h.out.2, h.own.keep hc (fun a ha => (h.at_ a ha).1), fun a ha => ?_, hout _ (heap_lt h.t) h.out.1, hout _ (heap_lt h.m) h.out.2⟩
  obtain ⟨h1, h2⟩ := h.at_ a ha
  exact ⟨hout _ (h.own.at_ a ha).2.1 h1, h2⟩
theorem Sent.stays (h : Sent w wx p ms lo n cap es F T oT M f d so L sc l) (hb : Below wx.heap.size wx wy) : Sent w wy p ms lo n cap es F T oT M f d so L sc l :=
  have hc := Chg.of_below hb (fun _ => False)
  ⟨h.two.stays hb, hc.heap h.t (fun h => h), hc.heap h.m (fun h => h), h.own.keep hc (fun _ _ h => h), h.at_, h.out⟩
theorem Sent.set {b off : Nat} (h : Sent w wx p ms lo n cap es F T oT M f d (some ⟨b, off, none⟩) L sc l) (k : Nat) (v : UInt8) (hk : k < L) : Sent w (wx.setCell ⟨b, off + k, none⟩ (cb v)) p ms lo n cap es F T oT M f d (some ⟨b, off, none⟩) L sc (l.set k v) := by
  obtain ⟨h1, h2, h3, h4, h5⟩ := h.at_ _ rfl
  have hs := Chg.one wx b (off + k) (cb v)
  refine ⟨h.two.keep hs (fun j hj e => h1 (e ▸ hj)) (fun a ha e => h2 a ha e) (by rintro j rfl; exact h5), hs.heap h.t (fun e => h3 e.symm), hs.heap h.m (fun e => h4 e.symm), ?_, h.at_, h.out⟩
  rw [List.map_set]
  exact h.own.set k (cb v) (by omega)
end
theorem HeadIs.snoc {w wx : World} {p k : Nat} {ms : List Msg} {lo : Option Addr} {n cap : Nat} {es : List Ent} {F : List Nat} {e : Ent} (h : Two w wx p (ms ++ [e.m]) lo (n + 1) cap (es ++ [e]) F) (hm : es.map Ent.m = ms) (hn : n ≤ k) (hs : ∀ m ∈ ms, m.body.length ≤ 4096) (he : e.m.body.length ≤ 4096) :
    HeadIs w wx p (k + 1) (.slice lo (n + 1) cap) := by
  refine ⟨_, _, _, _, _, _, rfl, h, by rw [List.map_append, hm]; rfl, by omega, fun m hm => ?_⟩
  rcases List.mem_append.1 hm with hm | hm
  · exact hs m hm
  · rw [List.mem_singleton] at hm; subst hm; exact he
theorem MsgsRow.sub {w : World} {b off : Nat} {es : List Ent} {j : Nat} {x : Ent} (h : MsgsRow w (some ⟨b, off, none⟩) es) (hx : es[j]? = some x) : MsgsRow w (some ⟨b, off + j * 3, none⟩) [x] := by
  refine ⟨?_, fun y hy => by rw [List.mem_singleton] at hy; subst hy; exact h.2 y (List.mem_of_getElem? hx)⟩
  have h1 := (h.1.drop (j * 3)).take (1 * 3)
  rw [flat_drop, flat_take] at h1
  obtain ⟨hlt, he⟩ := List.getElem?_eq_some_iff.1 hx
  rw [List.drop_eq_getElem_cons hlt, he, List.take_succ_cons, List.take_zero] at h1
  exact h1
/-- Two messages, laid anew one behind the other. -/
theorem rows_two (w : World) (o : Obj) (e f : Ent) (he : Bts w e.bo e.m.body) (hf : Bts w f.bo f.m.body) :
    MsgsRow (((w.alloc o).alloc (.cells #[.int .i64 e.m.frm, .int .i64 e.m.dst, .slice e.bo e.m.body.length e.cap] 29)).alloc (.cells #[.int .i64 f.m.frm, .int .i64 f.m.dst, .slice f.bo f.m.body.length f.cap] 29)) (some ⟨w.heap.size + 1, 0, none⟩) [e] ∧
    MsgsRow (((w.alloc o).alloc (.cells #[.int .i64 e.m.frm, .int .i64 e.m.dst, .slice e.bo e.m.body.length e.cap] 29)).alloc (.cells #[.int .i64 f.m.frm, .int .i64 f.m.dst, .slice f.bo f.m.body.length f.cap] 29)) (some ⟨w.heap.size + 1 + 1, 0, none⟩) [f] := by
  have hb1 : Below w.heap.size w (w.alloc o) := (Below.refl _ w).alloc (Nat.le_refl _) _
  have h1 := one_row (w.alloc o) e (he.below hb1)
  have hb2 := hb1.alloc hb1.size (.cells #[.int .i64 e.m.frm, .int .i64 e.m.dst, .slice e.bo e.m.body.length e.cap] 29)
  have h2 := one_row ((w.alloc o).alloc (.cells #[.int .i64 e.m.frm, .int .i64 e.m.dst, .slice e.bo e.m.body.length e.cap] 29)) f (hf.below hb2)
  rw [size_alloc] at h1
  rw [size_alloc, size_alloc] at h2
  exact ⟨h1.below ((Below.refl _ _).alloc (Nat.le_refl _) _), h2⟩
theorem erase_mid {w w6 w7 : World} {p : Nat} {ms : List Msg} {lb loff n cap j : Nat} {es : List Ent} {F : List Nat} {o : Obj} (h : Two w w6 p ms (some ⟨lb, loff, none⟩) n cap es F)
    (hch : Chg (fun k => ∃ a, some (⟨w6.heap.size, 0, none⟩ : Addr) = some a ∧ a.block = k) ((w6.alloc o).drew) w7) :
    Below w6.heap.size w6 w7 ∧ Row w7 (if cap = j + 1 then some ⟨lb, loff, none⟩ else some ⟨lb, loff + (j + 1) * 3, none⟩) ((es.drop (j + 1)).flatMap Ent.cells) := by
  have hb := chg_new (Below.refl w6.heap.size w6) hch.undrew
  exact ⟨hb, flat_row (h.stays hb).own h.len (j + 1)⟩
theorem erase_end {w w6 w7 w8 : World} {p : Nat} {ms : List Msg} {lo xo yo : Option Addr} {n n' yc cap j : Nat} {es : List Ent} {F : List Nat} (h : Two w w6 p ms lo n cap es F) (hb : Below w6.heap.size w6 w7)
    (hx : ∀ a, xo = some a → w6.heap.size ≤ a.block) (ho : Own w8 3 yo n' yc ((es.eraseIdx j).flatMap Ent.cells)) (hch : Chg (fun k => ∃ a, xo = some a ∧ a.block = k) w7 w8) (hx2 : ∀ a, yo = some a → xo = some a ∨ w7.heap.size ≤ a.block) :
    Two w w8 p ms yo n' yc (es.eraseIdx j) F := by
  refine h.fresh ho (chg_on hb hch hb.size hx) (fun a ha => ?_) (fun e he => h.bod e (List.mem_of_mem_eraseIdx he))
  rcases hx2 a ha with h | h
  · exact hx a h
  · exact Nat.le_trans hb.size h
theorem rest_end {w wc wx w9 : World} {p : Nat} {ms ms' : List Msg} {lo ro : Option Addr} {n cap rn rc : Nat} {es rs : List Ent} {F F' : List Nat} (h : Two w wc p ms lo n cap es F) (hb : Below wc.heap.size wc wx) (ho : Own wx 3 ro rn rc (rs.flatMap Ent.cells))
    (hx : ∀ a, ro = some a → wc.heap.size ≤ a.block) (hs : ∀ e ∈ rs, e ∈ es) (hn : NetAt w9 p ms' F') (hc : Chg (· ∈ F) wx w9) (hg : Grew wx F F') : Two w w9 p ms' ro rn rc rs F' := by
  have h9 := (h.stays hb).wrote hn hc hg
  have hF : ∀ a, ro = some a → a.block ∉ F := fun a ha hk => by have := h.net.net.lt _ hk; have := hx a ha; omega
  refine ⟨h9.net, ho.keep hc hF, fun a ha => ⟨Nat.le_trans h.net.below.size (hx a ha), fun hk => ?_⟩, fun e he => h.bod e (hs e he)⟩
  rcases hg _ hk with hk | hk
  · exact hF a ha hk
  · have := (ho.at_ a ha).2.1; omega
theorem map_filt (es : List Ent) (d : Int) : (es.filter (fun e => !(e.m.dst == d))).map Ent.m = (es.map Ent.m).filter (fun m => !(m.dst == d)) := by
  rw [List.filter_map]; rfl
end Go.Proofs.Ytgbfpllaianeaaa
