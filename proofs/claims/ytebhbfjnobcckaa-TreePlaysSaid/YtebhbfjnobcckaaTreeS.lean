/-
  LAYER 6: the document's tree in memory; at, Get, Drop.
-/
import Derived.Test.YtebhbfjnobcckaaTreeP
import Derived.Laws.ResultCell
namespace Go.Proofs.Ytebhbfjnobcckaa
open Go Go.RowKit

/-- The document's tree, at q. -/
structure RTreeIs (w : World) (q : Nat) (lo : Option Addr) (n cap : Nat) (l : List Nd) (rs : List Pl) (G : List Nat) : Prop where
  map : l.map Nd.pl = rs
  heap : w.heap[q]? = some (.cells #[.slice lo n cap] 45 (0, 0))
  own : Own w 4 lo n cap (l.flatMap Nd.cells)
  apart : q ∉ blk lo
  body : ∀ e ∈ l, Bts w e.vo e.body ∧ ∀ a, e.vo = some a → a.block ∈ G ∧ a.block ≠ q
  qG : q ∈ G
  bG : ∀ k ∈ blk lo, k ∈ G
  lt : ∀ k ∈ G, k < w.heap.size
def RTreeAt (w : World) (q : Nat) (rs : List Pl) (G : List Nat) : Prop := ∃ lo n cap l, RTreeIs w q lo n cap l rs G
def RWrote (w w' : World) (q : Nat) (rs : List Pl) (G : List Nat) : Prop := ∃ G', RTreeAt w' q rs G' ∧ Chg (· ∈ G) w w' ∧ ∀ k ∈ G', k ∈ G ∨ w.heap.size ≤ k
section
variable {w w' : World} {q n cap : Nat} {lo : Option Addr} {l : List Nd} {rs : List Pl} {G : List Nat}
theorem RTreeIs.keep (h : RTreeIs w q lo n cap l rs G) {S : Nat → Prop} (hc : Chg S w w') (hS : ∀ k ∈ G, ¬ S k) : RTreeIs w' q lo n cap l rs G :=
  ⟨h.map, hc.heap h.heap (hS q h.qG), h.own.keep hc (fun a ha => hS _ (h.bG _ (mem_blk.2 ⟨a, ha, rfl⟩))), h.apart, fun e he => ⟨hc.row (h.body e he).1 (fun a ha => hS _ ((h.body e he).2 a ha).1), (h.body e he).2⟩, h.qG, h.bG, fun k hk => Nat.lt_of_lt_of_le (h.lt k hk) hc.size⟩
theorem RTreeAt.keep (h : RTreeAt w q rs G) {S : Nat → Prop} (hc : Chg S w w') (hS : ∀ k ∈ G, ¬ S k) : RTreeAt w' q rs G := by
  obtain ⟨lo, n, cap, l, h⟩ := h
  exact ⟨lo, n, cap, l, h.keep hc hS⟩
theorem RTreeAt.lt (h : RTreeAt w q rs G) : ∀ k ∈ G, k < w.heap.size := by
  obtain ⟨lo, n, cap, l, h⟩ := h
  exact h.lt
theorem RWrote.same (h : RTreeAt w q rs G) (hb : Below w.heap.size w w') : RWrote w w' q rs G :=
  ⟨G, h.keep (Chg.of_below hb (fun _ => False)) (fun _ _ h => h), Chg.of_below hb _, fun _ h => .inl h⟩
theorem RTreeIs.len (h : RTreeIs w q lo n cap l rs G) : l.length = n ∧ rs.length = n := by
  have h1 := fl_own_len el_e h.own
  exact ⟨h1, by rw [← h.map, List.length_map]; exact h1⟩
theorem RTreeIs.got {i : Nat} (h : RTreeIs w q lo n cap l rs G) {x : Pl} (hx : rs[i]? = some x) : ∃ e, l[i]? = some e ∧ e.pl = x := by
  rw [← h.map, List.getElem?_map] at hx
  cases he : l[i]? with
  | none => rw [he] at hx; cases hx
  | some e => rw [he] at hx; exact ⟨e, rfl, by simpa using hx⟩
end
/-- A new list is laid in q's place; its nodes' bytes are old ones or new. -/
theorem rtree_end {w w3 : World} {q n cap n' cap' : Nat} {lo xo : Option Addr} {l m : List Nd} {rs qs : List Pl} {G : List Nat} (h : RTreeIs w q lo n cap l rs G) (hb : Below w.heap.size w w3) (hq : m.map Nd.pl = qs) (ho : Own w3 4 xo n' cap' (m.flatMap Nd.cells)) (hx : ∀ a, xo = some a → w.heap.size ≤ a.block)
    (hbody : ∀ e ∈ m, e ∈ l ∨ Bts w3 e.vo e.body ∧ ∀ a, e.vo = some a → w.heap.size ≤ a.block ∧ a.block < w3.heap.size) : RWrote w (w3.setCell ⟨q, 0, none⟩ (.slice xo n' cap')) q qs G := by
  have hC := Chg.of_below hb (fun _ => False)
  have hset := Chg.one w3 q 0 (.slice xo n' cap')
  have hq0 := h.lt q h.qG
  have hqx : ∀ a, xo = some a → a.block ≠ q := fun a ha e => by have := hx a ha; omega
  have hbs := hb.size
  have hss := hset.size
  refine ⟨G ++ blk xo ++ m.flatMap (fun e => blk e.vo), ⟨xo, n', cap', m, ⟨hq, heap_set (hC.heap h.heap (fun h => h)) 0 _, ho.keep hset (fun a ha e => hqx a ha e), fun hk => ?_, fun e he => ?_, by simp [h.qG], fun k hk => by simp [hk], fun k hk => ?_⟩⟩, ((Chg.of_below hb (· ∈ G))).set h.qG 0 _, fun k hk => ?_⟩
  · obtain ⟨a, ha, e⟩ := mem_blk.1 hk
    exact hqx a ha e
  · have hmem : ∀ a, e.vo = some a → a.block ∈ G ++ blk xo ++ m.flatMap (fun e => blk e.vo) := fun a ha => List.mem_append_right _ (List.mem_flatMap.2 ⟨e, he, mem_blk.2 ⟨a, ha, rfl⟩⟩)
    rcases hbody e he with h1 | ⟨h1, h2⟩
    · obtain ⟨b1, b2⟩ := h.body e h1
      exact ⟨hset.row (hC.row b1 (fun _ _ h => h)) (fun a ha e => (b2 a ha).2 e), fun a ha => ⟨hmem a ha, (b2 a ha).2⟩⟩
    · exact ⟨hset.row h1 (fun a ha e => by have := (h2 a ha).1; omega), fun a ha => ⟨hmem a ha, fun e => by have := (h2 a ha).1; omega⟩⟩
  · rcases List.mem_append.1 hk with hk | hk
    · rcases List.mem_append.1 hk with hk | hk
      · have := h.lt k hk; omega
      · obtain ⟨a, ha, e⟩ := mem_blk.1 hk
        have := (ho.at_ a ha).2.1; omega
    · obtain ⟨e, he, hk⟩ := List.mem_flatMap.1 hk
      obtain ⟨a, ha, rfl⟩ := mem_blk.1 hk
      rcases hbody e he with h1 | ⟨h1, h2⟩
      · have := h.lt _ ((h.body e h1).2 a ha).1; omega
      · have := (h2 a ha).2; omega
  · rcases List.mem_append.1 hk with hk | hk
    · rcases List.mem_append.1 hk with hk | hk
      · exact .inl hk
      · obtain ⟨a, ha, rfl⟩ := mem_blk.1 hk
        exact .inr (hx a ha)
    · obtain ⟨e, he, hk⟩ := List.mem_flatMap.1 hk
      obtain ⟨a, ha, rfl⟩ := mem_blk.1 hk
      rcases hbody e he with h1 | ⟨h1, h2⟩
      · exact .inl ((h.body e h1).2 a ha).1
      · exact .inr (h2 a ha).1
theorem ba_inj {a b : ByteArray} (h : a.toList = b.toList) : a = b := ba_eq (by rw [← ba_toList, ← ba_toList]; exact h)
theorem keys_eq {a b : ByteArray} (h : cmpB a b = 0) : (a.toList == b.toList) = true := by rw [cmpB_zero.1 h]; simp
theorem keys_ne {a b : ByteArray} (h : cmpB a b ≠ 0) : (a.toList == b.toList) = false := by
  cases hb : a.toList == b.toList with
  | false => rfl
  | true => exact absurd (cmpB_zero.2 (ba_inj (by simpa using hb))) h
theorem keys_ne' {a b : ByteArray} (h : cmpB a b ≠ 0) : ¬ a.toList = b.toList := fun e => h (cmpB_zero.2 (ba_inj e))
set_option maxHeartbeats 1000000 in
set_option maxRecDepth 100000 in
theorem rat_to (q : Nat) (lo : Option Addr) (n cap : Nat) (l : List Nd) (rs : List Pl) (G : List Nat) (key : ByteArray) (K : Nat) (R : Int) (w : World) (h : RTreeIs w q lo n cap l rs G) (hn : n ≤ 256) (hK : K ≤ n) (hno : ∀ x ∈ rs.take K, cmpB x.key key ≠ 0) (hend : K = n ∧ R = -1 ∨ R = (K : Int) ∧ ∃ x, rs[K]? = some x ∧ cmpB x.key key = 0) :
    Calls Try.prog 32 #[.pointer (some ⟨q, 0, none⟩), .string key] w fun r w' => r = .returned (.int .i64 R) ∧ w = w' := by
  have HI := Lib.hid (And.intro h (And.intro hno hend))
  obtain ⟨z0, z2⟩ := cells1 h.heap
  clear h hno hend
  go_enter Try.func32, Try.ntmps32
  go_wp2
  go_loopg [5] K (fun g v wr => ∃ k : Nat, g + k = K ∧ v = .int .i64 k ∧ wr = w)
  case atStart => exact ⟨0, by omega, rfl, rfl⟩
  case round =>
    obtain ⟨k, hgk, rfl, rfl⟩ := hrel
    by_cases hk : k < K
    · obtain ⟨e, he⟩ : ∃ e, l[k]? = some e := ⟨_, List.getElem?_eq_getElem (by rw [HI.out.1.len.1]; omega)⟩
      obtain ⟨b, off, rfl, q0, q1, q2, q3⟩ := nd_at HI.out.1.own.row he
      have hkn : k < n := by omega
      have hne := HI.out.2.1 e.pl (List.mem_of_getElem? (i := k) (by rw [List.getElem?_take_of_lt hk, ← HI.out.1.map, List.getElem?_map, he]; rfl))
      have hne1 := keys_ne hne
      have hne2 := keys_ne' hne
      dsimp only [Nd.pl] at hne1 hne2
      clear hne he
      go_wp2
      go_roundg (gk - 1)
      case measure => omega
      case rel => exact ⟨k + 1, by omega, by go_num, rfl⟩
    · obtain rfl : k = K := by omega
      rcases HI.out.2.2 with ⟨rfl, rfl⟩ | ⟨rfl, x, hx, h0⟩
      · go_wp2
        go_ret
        exact ⟨rfl, rfl⟩
      · obtain ⟨e, he, rfl⟩ := HI.out.1.got hx
        have hkn : k < n := by have := (List.getElem?_eq_some_iff.1 he).1; have := HI.out.1.len.1; omega
        obtain ⟨b, off, rfl, q0, q1, q2, q3⟩ := nd_at HI.out.1.own.row he
        have hke := cmpB_zero.1 h0
        dsimp only [Nd.pl] at hke
        subst hke
        clear h0 hx he
        go_wp2
        go_ret
        exact ⟨rfl, rfl⟩
theorem first_key (rs : List Pl) (key : ByteArray) : (∀ x ∈ rs, cmpB x.key key ≠ 0) ∨ ∃ (i : Nat) (x : Pl), rs[i]? = some x ∧ cmpB x.key key = 0 ∧ ∀ y ∈ rs.take i, cmpB y.key key ≠ 0 := by
  induction rs with
  | nil => exact .inl (by simp)
  | cons e es ih =>
    by_cases he : cmpB e.key key = 0
    · exact .inr ⟨0, e, rfl, he, by simp⟩
    · rcases ih with h | ⟨i, x, h1, h2, h3⟩
      · exact .inl (fun y hy => by rcases List.mem_cons.1 hy with rfl | hy; exact he; exact h y hy)
      · exact .inr ⟨i + 1, x, h1, h2, fun y hy => by rw [List.take_succ_cons] at hy; rcases List.mem_cons.1 hy with rfl | hy; exact he; exact h3 y hy⟩
theorem look_first : ∀ {rs : List Pl} {key : ByteArray} {i : Nat} {x : Pl}, rs[i]? = some x → cmpB x.key key = 0 → (∀ y ∈ rs.take i, cmpB y.key key ≠ 0) → lookP rs key = some x
  | [], _, _, _, hx, _, _ => by simp at hx
  | y :: ps, key, 0, x, hx, h0, _ => by simp at hx; subst hx; rw [lookP, if_pos h0]
  | y :: ps, key, i + 1, x, hx, h0, hno => by
    rw [lookP, if_neg (hno y (by simp))]
    exact look_first (i := i) (by simpa using hx) h0 (fun z hz => hno z (by simp [hz]))
end Go.Proofs.Ytebhbfjnobcckaa
