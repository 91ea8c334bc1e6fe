/-
  LAYER 8: the document's tree inside its State (printed by m7rt.py): at, Get, Drop, Put.
-/
import Derived.Test.YtackmgmaippajaaGreatFTb
import Derived.Test.YtackmgmaippajaaGreatFTc
import Derived.Test.YtackmgmaippajaaGreatFTa
import Derived.Laws.ResultCell
namespace Go.Proofs.YtackmgmaippajaaGreat.Tr
open Go Go.RowKit

/-- Two lists that are picked out of nodes. -/
structure PickRel (w wr : World) (es : List Nd) (f g : Nd → Bool) (i j : Nat) (ao : Option Addr) (an ac : Nat) (bo : Option Addr) (bn bc : Nat) : Prop where
  below : Below w.heap.size w wr
  one : Own wr 4 ao an ac (((es.take i).filter f).flatMap Nd.cells)
  two : Own wr 4 bo bn bc (((es.take j).filter g).flatMap Nd.cells)
  new1 : ∀ a, ao = some a → w.heap.size ≤ a.block
  new2 : ∀ a, bo = some a → w.heap.size ≤ a.block
  apart : ∀ a b, ao = some a → bo = some b → a.block ≠ b.block
theorem PickRel.zero (w : World) (es : List Nd) (f g : Nd → Bool) : PickRel w w es f g 0 0 none 0 0 none 0 0 :=
  ⟨Below.refl _ _, Own.nil' _ _, Own.nil' _ _, by simp, by simp, by simp⟩
theorem filter_next {es : List Nd} {f : Nd → Bool} {j : Nat} {e : Nd} (he : es[j]? = some e) : (es.take (j + 1)).filter f = if f e then (es.take j).filter f ++ [e] else (es.take j).filter f := by
  rw [List.take_add_one, he, List.filter_append]
  cases h : f e <;> simp [h]
section
variable {w wr W w2 : World} {es : List Nd} {f g : Nd → Bool} {i j an ac bn bc xc : Nat} {ao bo xo : Option Addr} {e : Nd}
theorem PickRel.swap (h : PickRel w wr es f g i j ao an ac bo bn bc) : PickRel w wr es g f j i bo bn bc ao an ac :=
  ⟨h.below, h.two, h.one, h.new2, h.new1, fun a b ha hb e => h.apart b a hb ha e.symm⟩
theorem PickRel.stays (h : PickRel w wr es f g i j ao an ac bo bn bc) (hb : Below wr.heap.size wr W) : PickRel w W es f g i j ao an ac bo bn bc :=
  ⟨h.below.trans (hb.mono h.below.size), h.one.keep (Chg.of_below hb (fun _ => False)) (fun _ _ h => h), h.two.keep (Chg.of_below hb (fun _ => False)) (fun _ _ h => h), h.new1, h.new2, h.apart⟩
theorem PickRel.add1 (h : PickRel w wr es f g i j ao an ac bo bn bc) (he : es[i]? = some e) (hf : f e = true) (hb : Below wr.heap.size wr W) (hx : Own w2 4 xo (an + 1) xc (((es.take i).filter f).flatMap Nd.cells ++ e.cells)) (hch : Chg (fun k => ∃ a, ao = some a ∧ a.block = k) W w2) (hx2 : ∀ a', xo = some a' → ao = some a' ∨ W.heap.size ≤ a'.block) :
    PickRel w w2 es f g (i + 1) j xo (an + 1) xc bo bn bc := by
  have h' := h.stays hb
  have hs := hb.size
  have hs0 := h.below.size
  refine ⟨h'.below.trans (hch.below h'.below.size (fun k ⟨a, ha, e⟩ => e ▸ h.new1 a ha)), ?_, h'.two.keep hch (fun b hb ⟨a, ha, e⟩ => h.apart a b ha hb e), fun a ha => ?_, h.new2, fun a b ha hb => ?_⟩
  · rw [filter_next he, if_pos hf, List.flatMap_append, List.flatMap_cons, List.flatMap_nil, List.append_nil]; exact hx
  · rcases hx2 a ha with h1 | h1
    · exact h.new1 a h1
    · omega
  · rcases hx2 a ha with h1 | h1
    · exact h.apart a b h1 hb
    · have := (h'.two.at_ b hb).2.1; omega
theorem PickRel.skip1 (h : PickRel w wr es f g i j ao an ac bo bn bc) (he : es[i]? = some e) (hf : f e = false) : PickRel w wr es f g (i + 1) j ao an ac bo bn bc :=
  ⟨h.below, by rw [filter_next he, if_neg (by simp [hf])]; exact h.one, h.two, h.new1, h.new2, h.apart⟩
end

/-- The document's tree: the second cell of the block q, whose cells are cs. -/
structure RTreeIs (w : World) (q : Nat) (cs : Array Value) (t : TypeId) (lo : Option Addr) (n cap : Nat) (l : List Nd) (rs : List Pl) (G : List Nat) : Prop where
  map : l.map Nd.pl = rs
  heap : w.heap[q]? = some (.cells cs t (0, 0))
  at1 : cs[1]? = some (.slice lo n cap)
  own : Own w 4 lo n cap (l.flatMap Nd.cells)
  apart : q ∉ blk lo
  body : ∀ e ∈ l, Bts w e.vo e.body ∧ ∀ a, e.vo = some a → a.block ∈ G ∧ a.block ≠ q
  qG : q ∈ G
  bG : ∀ k ∈ blk lo, k ∈ G
  lt : ∀ k ∈ G, k < w.heap.size
theorem cellsK {w : World} {q : Nat} {cs : Array Value} {t : TypeId} {v : Value} (h : w.heap[q]? = some (.cells cs t (0, 0))) (h1 : cs[1]? = some v) : w.cell? ⟨q, 1, none⟩ = some v ∧ ∀ i, w.frozen? ⟨q, i, none⟩ = false :=
  ⟨(heap_cell h 1).trans h1, fun i => heap_frozen h i⟩
theorem set_self {cs : Array Value} {i : Nat} {v : Value} (h : cs[i]? = some v) : cs.setIfInBounds i v = cs := by
  apply Array.ext_getElem?
  intro j
  rw [Array.getElem?_setIfInBounds]
  by_cases hij : i = j
  · subst hij
    have hi := (Array.getElem?_eq_some_iff.1 h).1
    rw [if_pos rfl, if_pos hi, h]
  · rw [if_neg hij]
def RTreeAt (w : World) (q : Nat) (cs : Array Value) (t : TypeId) (rs : List Pl) (G : List Nat) : Prop := ∃ lo n cap l, RTreeIs w q cs t lo n cap l rs G
/-- The tree's cell, and it alone, is written. -/
def RWrote (w w' : World) (q : Nat) (cs : Array Value) (t : TypeId) (rs : List Pl) (G : List Nat) : Prop := ∃ G' v, RTreeAt w' q (cs.setIfInBounds 1 v) t rs G' ∧ Chg (· = q) w w' ∧ ∀ k ∈ G', k ∈ G ∨ w.heap.size ≤ k
section
variable {w w' : World} {q n cap : Nat} {cs : Array Value} {t : TypeId} {lo : Option Addr} {l : List Nd} {rs : List Pl} {G : List Nat}
theorem RTreeIs.keep (h : RTreeIs w q cs t lo n cap l rs G) {S : Nat → Prop} (hc : Chg S w w') (hS : ∀ k ∈ G, ¬ S k) : RTreeIs w' q cs t lo n cap l rs G :=
  ⟨h.map, hc.heap h.heap (hS q h.qG), h.at1, h.own.keep hc (fun a ha => hS _ (h.bG _ (mem_blk.2 ⟨a, ha, rfl⟩))), h.apart, fun e he => ⟨hc.row (h.body e he).1 (fun a ha => hS _ ((h.body e he).2 a ha).1), (h.body e he).2⟩, h.qG, h.bG, fun k hk => Nat.lt_of_lt_of_le (h.lt k hk) hc.size⟩
theorem RTreeAt.keep (h : RTreeAt w q cs t rs G) {S : Nat → Prop} (hc : Chg S w w') (hS : ∀ k ∈ G, ¬ S k) : RTreeAt w' q cs t rs G := by
  obtain ⟨lo, n, cap, l, h⟩ := h
  exact ⟨lo, n, cap, l, h.keep hc hS⟩
theorem RTreeAt.lt (h : RTreeAt w q cs t rs G) : ∀ k ∈ G, k < w.heap.size := by
  obtain ⟨lo, n, cap, l, h⟩ := h
  exact h.lt
theorem RWrote.same (h : RTreeAt w q cs t rs G) (hb : Below w.heap.size w w') : RWrote w w' q cs t rs G :=
  by
  obtain ⟨lo, n, cap, l, h⟩ := h
  refine ⟨G, .slice lo n cap, ?_, Chg.of_below hb _, fun _ h => .inl h⟩
  rw [set_self h.at1]
  exact ⟨lo, n, cap, l, h.keep (Chg.of_below hb (fun _ => False)) (fun _ _ h => h)⟩
theorem RTreeIs.len (h : RTreeIs w q cs t lo n cap l rs G) : l.length = n ∧ rs.length = n := by
  have h1 := fl_own_len el_e h.own
  exact ⟨h1, by rw [← h.map, List.length_map]; exact h1⟩
theorem RTreeIs.got {i : Nat} (h : RTreeIs w q cs t lo n cap l rs G) {x : Pl} (hx : rs[i]? = some x) : ∃ e, l[i]? = some e ∧ e.pl = x := by
  rw [← h.map, List.getElem?_map] at hx
  cases he : l[i]? with
  | none => rw [he] at hx; cases hx
  | some e => rw [he] at hx; exact ⟨e, rfl, by simpa using hx⟩
end
/-- A new list is laid in q's place; its nodes' bytes are old ones or new. -/
theorem rtree_end {w w3 : World} {q n cap n' cap' : Nat} {cs : Array Value} {t : TypeId} {lo xo : Option Addr} {l m : List Nd} {rs qs : List Pl} {G : List Nat} (h : RTreeIs w q cs t lo n cap l rs G) (hb : Below w.heap.size w w3) (hq : m.map Nd.pl = qs) (ho : Own w3 4 xo n' cap' (m.flatMap Nd.cells)) (hx : ∀ a, xo = some a → w.heap.size ≤ a.block)
    (hbody : ∀ e ∈ m, e ∈ l ∨ Bts w3 e.vo e.body ∧ ∀ a, e.vo = some a → w.heap.size ≤ a.block ∧ a.block < w3.heap.size) : RWrote w (w3.setCell ⟨q, 1, none⟩ (.slice xo n' cap')) q cs t qs G := by
  have hC := Chg.of_below hb (fun _ => False)
  have hset := Chg.one w3 q 1 (.slice xo n' cap')
  have hq0 := h.lt q h.qG
  have hqx : ∀ a, xo = some a → a.block ≠ q := fun a ha e => by have := hx a ha; omega
  have hbs := hb.size
  have hss := hset.size
  refine ⟨G ++ blk xo ++ m.flatMap (fun e => blk e.vo), .slice xo n' cap', ⟨xo, n', cap', m, ⟨hq, heap_set (hC.heap h.heap (fun h => h)) 1 _, by obtain ⟨hi, _⟩ := Array.getElem?_eq_some_iff.1 h.at1; simp [hi], ho.keep hset (fun a ha e => hqx a ha e), fun hk => ?_, fun e he => ?_, by simp [h.qG], fun k hk => by simp [hk], fun k hk => ?_⟩⟩, ((Chg.of_below hb (· = q))).set rfl 1 _, fun k hk => ?_⟩
  · obtain ⟨a, ha, e⟩ := mem_blk.1 hk
    exact hqx a ha e
  · have hmem : ∀ a, e.vo = some a → a.block ∈ G ++ blk xo ++ m.flatMap (fun e => blk e.vo) := fun a ha => List.mem_append_right _ (List.mem_flatMap.2 ⟨e, he, mem_blk.2 ⟨a, ha, rfl⟩⟩)
    rcases hbody e he with h1 | ⟨h1, h2⟩
    · obtain ⟨b1, b2⟩ := h.body e h1
      exact ⟨hset.row (hC.row b1 (fun _ _ h => h)) (fun a ha e => (b2 a ha).2 e), fun a ha => ⟨hmem a ha, (b2 a ha).2⟩⟩
    · exact ⟨hset.row h1 (fun a ha e => by have := (h2 a ha).1; omega), fun a ha => ⟨hmem a ha, fun e => by have := (h2 a ha).1; omega⟩⟩
  · rcases List.mem_append.1 hk with hk | hk
    · rcases List.mem_append.1 hk with hk | hk
      · have := h.lt k hk; omega
      · obtain ⟨a, ha, e⟩ := mem_blk.1 hk
        have := (ho.at_ a ha).2.1; omega
    · obtain ⟨e, he, hk⟩ := List.mem_flatMap.1 hk
      obtain ⟨a, ha, rfl⟩ := mem_blk.1 hk
      rcases hbody e he with h1 | ⟨h1, h2⟩
      · have := h.lt _ ((h.body e h1).2 a ha).1; omega
      · have := (h2 a ha).2; omega
  · rcases List.mem_append.1 hk with hk | hk
    · rcases List.mem_append.1 hk with hk | hk
      · exact .inl hk
      · obtain ⟨a, ha, rfl⟩ := mem_blk.1 hk
        exact .inr (hx a ha)
    · obtain ⟨e, he, hk⟩ := List.mem_flatMap.1 hk
      obtain ⟨a, ha, rfl⟩ := mem_blk.1 hk
      rcases hbody e he with h1 | ⟨h1, h2⟩
      · exact .inl ((h.body e h1).2 a ha).1
      · exact .inr (h2 a ha).1
theorem ba_inj {a b : ByteArray} (h : a.toList = b.toList) : a = b := ba_eq (by rw [← ba_toList, ← ba_toList]; exact h)
theorem keys_eq {a b : ByteArray} (h : cmpB a b = 0) : (a.toList == b.toList) = true := by rw [cmpB_zero.1 h]; simp
theorem keys_ne {a b : ByteArray} (h : cmpB a b ≠ 0) : (a.toList == b.toList) = false := by
  cases hb : a.toList == b.toList with
  | false => rfl
  | true => exact absurd (cmpB_zero.2 (ba_inj (by simpa using hb))) h
theorem keys_ne' {a b : ByteArray} (h : cmpB a b ≠ 0) : ¬ a.toList = b.toList := fun e => h (cmpB_zero.2 (ba_inj e))
set_option maxHeartbeats 1000000 in
set_option maxRecDepth 100000 in
theorem rat_to (q : Nat) (cs : Array Value) (t : TypeId) (lo : Option Addr) (n cap : Nat) (l : List Nd) (rs : List Pl) (G : List Nat) (key : ByteArray) (K : Nat) (R : Int) (w : World) (h : RTreeIs w q cs t lo n cap l rs G) (hn : n ≤ 256) (hK : K ≤ n) (hno : ∀ x ∈ rs.take K, cmpB x.key key ≠ 0) (hend : K = n ∧ R = -1 ∨ R = (K : Int) ∧ ∃ x, rs[K]? = some x ∧ cmpB x.key key = 0) :
    Calls Tryz.prog 54 #[.pointer (some ⟨q, 1, none⟩), .string key] w fun r w' => r = .returned (.int .i64 R) ∧ w = w' := by
  have HI := Lib.hid (And.intro h (And.intro hno hend))
  obtain ⟨z0, z2⟩ := cellsK h.heap h.at1
  clear h hno hend
  go_enter Tryz.func54, Tryz.ntmps54
  go_wp2
  go_loopg [5] K (fun g v wr => ∃ k : Nat, g + k = K ∧ v = .int .i64 k ∧ wr = w)
  case atStart => exact ⟨0, by omega, rfl, rfl⟩
  case round =>
    obtain ⟨k, hgk, rfl, rfl⟩ := hrel
    by_cases hk : k < K
    · obtain ⟨e, he⟩ : ∃ e, l[k]? = some e := ⟨_, List.getElem?_eq_getElem (by rw [HI.out.1.len.1]; omega)⟩
      obtain ⟨b, off, rfl, q0, q1, q2, q3⟩ := nd_at HI.out.1.own.row he
      have hkn : k < n := by omega
      have hne := HI.out.2.1 e.pl (List.mem_of_getElem? (i := k) (by rw [List.getElem?_take_of_lt hk, ← HI.out.1.map, List.getElem?_map, he]; rfl))
      have hne1 := keys_ne hne
      have hne2 := keys_ne' hne
      dsimp only [Nd.pl] at hne1 hne2
      clear hne he
      go_wp2
      go_roundg (gk - 1)
      case measure => omega
      case rel => exact ⟨k + 1, by omega, by go_num, rfl⟩
    · obtain rfl : k = K := by omega
      rcases HI.out.2.2 with ⟨rfl, rfl⟩ | ⟨rfl, x, hx, h0⟩
      · go_wp2
        go_ret
        exact ⟨rfl, rfl⟩
      · obtain ⟨e, he, rfl⟩ := HI.out.1.got hx
        have hkn : k < n := by have := (List.getElem?_eq_some_iff.1 he).1; have := HI.out.1.len.1; omega
        obtain ⟨b, off, rfl, q0, q1, q2, q3⟩ := nd_at HI.out.1.own.row he
        have hke := cmpB_zero.1 h0
        dsimp only [Nd.pl] at hke
        subst hke
        clear h0 hx he
        go_wp2
        go_ret
        exact ⟨rfl, rfl⟩
theorem first_key (rs : List Pl) (key : ByteArray) : (∀ x ∈ rs, cmpB x.key key ≠ 0) ∨ ∃ (i : Nat) (x : Pl), rs[i]? = some x ∧ cmpB x.key key = 0 ∧ ∀ y ∈ rs.take i, cmpB y.key key ≠ 0 := by
  induction rs with
  | nil => exact .inl (by simp)
  | cons e es ih =>
    by_cases he : cmpB e.key key = 0
    · exact .inr ⟨0, e, rfl, he, by simp⟩
    · rcases ih with h | ⟨i, x, h1, h2, h3⟩
      · exact .inl (fun y hy => by rcases List.mem_cons.1 hy with rfl | hy; exact he; exact h y hy)
      · exact .inr ⟨i + 1, x, h1, h2, fun y hy => by rw [List.take_succ_cons] at hy; rcases List.mem_cons.1 hy with rfl | hy; exact he; exact h3 y hy⟩
theorem look_first : ∀ {rs : List Pl} {key : ByteArray} {i : Nat} {x : Pl}, rs[i]? = some x → cmpB x.key key = 0 → (∀ y ∈ rs.take i, cmpB y.key key ≠ 0) → lookP rs key = some x
  | [], _, _, _, hx, _, _ => by simp at hx
  | y :: ps, key, 0, x, hx, h0, _ => by simp at hx; subst hx; rw [lookP, if_pos h0]
  | y :: ps, key, i + 1, x, hx, h0, hno => by
    rw [lookP, if_neg (hno y (by simp))]
    exact look_first (i := i) (by simpa using hx) h0 (fun z hz => hno z (by simp [hz]))

set_option maxHeartbeats 1000000 in
theorem rget_none (q : Nat) (cs : Array Value) (t : TypeId) (rs : List Pl) (G : List Nat) (key : ByteArray) (w : World) (h : RTreeAt w q cs t rs G) (hn : rs.length ≤ 256) (hl : ∀ x ∈ rs, cmpB x.key key ≠ 0) :
    Calls Tryz.prog 25 #[.pointer (some ⟨q, 1, none⟩), .string key] w fun r w' => r = .returned (.tuple #[zeroNd, .bool false]) ∧ Below w.heap.size w w' := by
  obtain ⟨lo, n, cap, l, h⟩ := h
  have HA := Lib.hid ((Below.refl _ w).alloc (Nat.le_refl _) (.cells #[.string ⟨#[]⟩, .slice none 0 0, .int .u64 0, .int .u64 0] 78))
  have hT := heap_top w (.cells #[.string ⟨#[]⟩, .slice none 0 0, .int .u64 0, .int .u64 0] 78)
  have HAT := Lib.hid (rat_to q cs t lo n cap l rs G key n (-1) _ (h.keep (Chg.of_below HA.out (fun _ => False)) (fun _ _ h => h)) (by have := h.len.2; omega) (Nat.le_refl _) (fun x hx => hl x (List.mem_of_mem_take hx)) (.inl ⟨rfl, rfl⟩))
  obtain ⟨b0, b1, b2, b3, b4⟩ := cells4 hT
  clear h hT
  go_enter Tryz.func25, Tryz.ntmps25
  go_wp2_with (go_at_call 54; (with_reducible refine HAT.out.mono ?_); rintro r w2 ⟨rfl, rfl⟩)
  have hT := heap_top w (.cells #[.string ⟨#[]⟩, .slice none 0 0, .int .u64 0, .int .u64 0] 78)
  obtain ⟨c0, c1, c2, c3, _⟩ := cells4 hT
  refine bodyPost_ret (v := .tuple #[zeroNd, .bool false]) ?_ rfl ?_
  · simp [results, Tryz.results25, go_sem, c0, c1, c2, c3]
    rfl
  · exact ⟨rfl, HA.out⟩
set_option maxHeartbeats 1000000 in
theorem rget_some (q : Nat) (cs : Array Value) (t : TypeId) (rs : List Pl) (G : List Nat) (key : ByteArray) (x : Pl) (i : Nat) (w : World) (h : RTreeAt w q cs t rs G) (hn : rs.length ≤ 256) (hx : rs[i]? = some x) (h0 : cmpB x.key key = 0) (hno : ∀ y ∈ rs.take i, cmpB y.key key ≠ 0) :
    Calls Tryz.prog 25 #[.pointer (some ⟨q, 1, none⟩), .string key] w fun r w' => ∃ bo bc, r = .returned (.tuple #[(Nd.mk x.key x.body x.ver x.own bo bc).val, .bool true]) ∧ Below w.heap.size w w' ∧ Bts w' bo x.body := by
  obtain ⟨lo, n, cap, l, h⟩ := h
  have HA := Lib.hid ((Below.refl _ w).alloc (Nat.le_refl _) (.cells #[.string ⟨#[]⟩, .slice none 0 0, .int .u64 0, .int .u64 0] 78))
  have hi : i < n := by have := (List.getElem?_eq_some_iff.1 hx).1; have := h.len.2; omega
  have h' := h.keep (Chg.of_below HA.out (fun _ => False)) (fun _ _ h => h)
  have HAT := Lib.hid (rat_to q cs t lo n cap l rs G key i (i : Int) _ h' (by have := h.len.2; omega) (by omega) hno (.inr ⟨rfl, x, hx, h0⟩))
  obtain ⟨e, he, rfl⟩ := h.got hx
  have hii : (i : Int) < (n : Int) := by omega
  have hi0 : (0 : Int) ≤ (i : Int) := by omega
  obtain ⟨b, off, hlo', q0, q1, q2, q3⟩ := nd_at h'.own.row he
  subst hlo'
  obtain ⟨z0, z2⟩ := cellsK h'.heap h'.at1
  have HB := Lib.hid (h'.body e (List.mem_of_getElem? he)).1
  obtain ⟨xk, xb, xv, xw, xo, xc⟩ := e
  dsimp only [Nd.pl] at *
  have hT := heap_top w (.cells #[.string ⟨#[]⟩, .slice none 0 0, .int .u64 0, .int .u64 0] 78)
  obtain ⟨b0, b1, b2, b3, b4⟩ := cells4 hT
  have hT2 := heap_top w (.cells #[.string xk, .slice xo xb.length xc, .int .u64 (xv : Int), .int .u64 (xw : Int)] 78)
  have HT2 := Lib.hid hT2
  have HA2 := Lib.hid ((Below.refl _ w).alloc (Nat.le_refl _) (.cells #[.string xk, .slice xo xb.length xc, .int .u64 (xv : Int), .int .u64 (xw : Int)] 78))
  have HB0 := Lib.hid (h.body ⟨xk, xb, xv, xw, xo, xc⟩ (List.mem_of_getElem? he)).1
  clear h h' hx h0 hno he hT hT2 hn
  go_enter Tryz.func25, Tryz.ntmps25
  go_wp2_with (go_at_call 54; (with_reducible refine HAT.out.mono ?_); rintro r w2 ⟨rfl, rfl⟩)
  obtain ⟨c0, c1, c2, c3, _⟩ := cells4 HT2.out
  refine bodyPost_ret (v := .tuple #[(Nd.mk xk xb xv xw xo xc).val, .bool true]) ?_ rfl ?_
  · simp [results, Tryz.results25, go_sem, c0, c1, c2, c3]
    rfl
  · exact ⟨xo, xc, rfl, HA2.out, HB0.out.below HA2.out⟩
theorem drop_pick (l : List Pl) (own : Nat) : l.filter (fun x => decide (own = 0) || !(x.own == own)) = dropP l own := by
  unfold dropP
  by_cases h : own = 0
  · rw [if_pos h]
    exact List.filter_eq_self.2 (fun x _ => by simp [h])
  · rw [if_neg h]
    congr 1
    funext x
    simp [h]
theorem filter_pl (es : List Nd) (f : Pl → Bool) : (es.filter (fun e => f e.pl)).map Nd.pl = (es.map Nd.pl).filter f := by
  rw [List.filter_map]; rfl
set_option maxHeartbeats 2000000 in
set_option maxRecDepth 100000 in
theorem rdrop_any (q : Nat) (cs : Array Value) (t : TypeId) (rs : List Pl) (G : List Nat) (own : Nat) (w : World) (h : RTreeAt w q cs t rs G) (hn : rs.length ≤ 256) :
    Calls Tryz.prog 34 #[.pointer (some ⟨q, 1, none⟩), .int .u64 (own : Int)] w fun r w' => r = .returned (.tuple #[]) ∧ RWrote w w' q cs t (dropP rs own) G := by
  obtain ⟨lo, n, cap, l, h⟩ := h
  have hn256 : n ≤ 256 := by have := h.len.2; omega
  have HI := Lib.hid h
  clear h hn
  go_enter Tryz.func34, Tryz.ntmps34
  go_wp2
  go_loopg [4, 5] n (fun g v4 v5 wr => ∃ (k : Nat) (oo : Option Addr) (on oc : Nat), g + k = n ∧ v5 = .int .i64 k ∧ v4 = .slice oo on oc ∧ PickRel w wr l (fun _ => false) (fun e => decide (own = 0) || !(e.own == own)) 0 k none 0 0 oo on oc)
  case atStart => exact ⟨0, none, 0, 0, by omega, rfl, rfl, PickRel.zero _ _ _ _⟩
  case round =>
    obtain ⟨k, oo, on, oc, hgk, rfl, rfl, hp⟩ := hrel
    have HP := Lib.hid hp
    have hI2 := HI.out.keep (Chg.of_below hp.below (fun _ => False)) (fun _ _ h => h)
    obtain ⟨z0, z2⟩ := cellsK hI2.heap hI2.at1
    have hon : on ≤ 256 := by
      have h1 := fl_own_len el_e hp.two
      have h2 := List.length_filter_le (fun e => decide (own = 0) || !(e.own == own)) (l.take k)
      have h3 : (l.take k).length ≤ l.length := by rw [List.length_take]; omega
      have := HI.out.len.1
      omega
    clear hp
    have hA2 := fun (W : World) (o : Obj) => (Below.refl W.heap.size W).alloc (Nat.le_refl _) o
    by_cases hk : k < n
    · obtain ⟨e, he⟩ : ∃ e, l[k]? = some e := ⟨_, List.getElem?_eq_getElem (by rw [HI.out.len.1]; exact hk)⟩
      obtain ⟨b, off, rfl, q0, q1, q2, q3⟩ := nd_at hI2.own.row he
      have HE := Lib.hid he
      have hkI : (k : Int) < (n : Int) := by omega
      clear hI2 he
      by_cases ho : own = 0
      · subst ho
        have HG := Lib.hid (show (decide (0 = 0) || !(e.own == 0)) = true by simp)
        as_aux_lemma =>
          go_wp2_with (at_builtin; refine wpList_append' rfl (.tmp 29) (.tmp 37) el_i rfl rfl rfl (HP.out.stays (hA2 _ _)).two (m := 1) (news := e.cells) rfl (Row.alloc _ #[.string e.key, .slice e.vo e.body.length e.vc, .int .u64 (e.ver : Int), .int .u64 (e.own : Int)] 78 (0, 0)) (el_e.one e) (by unfold maxLen; omega) (by omega) ?_; intro xo xc w6 hx hch _ hx2; have H6 := Lib.hid (HP.out.swap.add1 HE.out HG.out (hA2 _ _) hx hch hx2).swap; clear hx hch hx2)
          go_roundg (gk - 1)
          case measure => omega
          case rel => exact ⟨k + 1, xo, on + 1, xc, by omega, by go_num, rfl, H6.out⟩
      · have hoi : ((own : Int) == 0) = false := by simp; omega
        by_cases heo : e.own = own
        · have hei : ((e.own : Int) == (own : Int)) = true := by simp; omega
          have hej : (e.own : Int) = (own : Int) := by omega
          have HG := Lib.hid (show (decide (own = 0) || !(e.own == own)) = false by simp [ho, heo])
          clear ho heo
          as_aux_lemma =>
            go_wp2
            go_roundg (gk - 1)
            case measure => omega
            case rel => exact ⟨k + 1, oo, on, oc, by omega, by go_num, rfl, (HP.out.swap.skip1 HE.out HG.out).swap⟩
        · have hei : ((e.own : Int) == (own : Int)) = false := by simp; omega
          have HG := Lib.hid (show (decide (own = 0) || !(e.own == own)) = true by simp [heo])
          clear ho heo
          as_aux_lemma =>
            go_wp2_with (at_builtin; refine wpList_append' rfl (.tmp 29) (.tmp 37) el_i rfl rfl rfl (HP.out.stays (hA2 _ _)).two (m := 1) (news := e.cells) rfl (Row.alloc _ #[.string e.key, .slice e.vo e.body.length e.vc, .int .u64 (e.ver : Int), .int .u64 (e.own : Int)] 78 (0, 0)) (el_e.one e) (by unfold maxLen; omega) (by omega) ?_; intro xo xc w6 hx hch _ hx2; have H6 := Lib.hid (HP.out.swap.add1 HE.out HG.out (hA2 _ _) hx hch hx2).swap; clear hx hch hx2)
            go_roundg (gk - 1)
            case measure => omega
            case rel => exact ⟨k + 1, xo, on + 1, xc, by omega, by go_num, rfl, H6.out⟩
    · obtain rfl : k = n := by omega
      clear hI2
      go_wp2
      go_end0
      have h2 := HP.out.two
      rw [List.take_of_length_le (by rw [HI.out.len.1]; exact Nat.le_refl _)] at h2
      refine ⟨rfl, rtree_end HI.out HP.out.below ?_ h2 HP.out.new2 (fun e he => .inl (List.mem_filter.1 he).1)⟩
      exact (filter_pl l (fun x => decide (own = 0) || !(x.own == own))).trans (by rw [HI.out.map, drop_pick])
end Go.Proofs.YtackmgmaippajaaGreat.Tr
