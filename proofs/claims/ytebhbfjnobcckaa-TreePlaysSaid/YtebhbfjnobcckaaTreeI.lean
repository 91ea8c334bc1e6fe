/-
  LAYER 6: Load, and the document's Loads.
-/
import Derived.Test.YtebhbfjnobcckaaTreeH
namespace Go.Proofs.Ytebhbfjnobcckaa
open Go Go.RowKit

/-- What an element more leaves. -/
theorem app_end {w w0 W w3 : World} {p n cap xc : Nat} {lo xo : Option Addr} {l : List Nd} {ps : List Pl} {F : List Nat} {e : Nd} (h : TreeIs w p lo n cap l ps F) (hb0 : Chg (fun _ => False) w w0) (hbW : Chg (fun _ => False) w0 W) 
    (hbody : Own w0 1 e.vo e.body.length e.vc (e.body.map cb)) (hnew : ∀ a, e.vo = some a → w.heap.size ≤ a.block) (ho : Own w3 4 xo (n + 1) xc (l.flatMap Nd.cells ++ e.cells)) (hch : Chg (fun k => ∃ a, lo = some a ∧ a.block = k) W w3) (hx : ∀ a, xo = some a → lo = some a ∨ W.heap.size ≤ a.block)
    (hp3 : w3.heap[p]? = some (.cells #[.slice lo n cap] 64 (0, 0))) :
    Wrote w (w3.setCell ⟨p, 0, none⟩ (.slice xo (n + 1) xc)) p (ps ++ [e.pl]) F := by
  obtain ⟨hl1, hl2⟩ := h.len
  have el : l.flatMap Nd.cells ++ e.cells = (l ++ [e]).flatMap Nd.cells := by simp
  have ep : (l ++ [e]).map Nd.pl = ps ++ [e.pl] := by rw [List.map_append, h.map]; rfl
  rw [el] at ho
  have hC : Chg (fun _ => False) w W := hb0.trans hbW (fun _ _ h => h)
  have hC3 : Chg (· ∈ F) w w3 := (hC.to (fun _ h => h.elim)).trans hch (fun k hk ⟨a, ha, ea⟩ => h.bF k (mem_blk.2 ⟨a, ha, ea⟩))
  have hW := hC.size
  have h3 := hch.size
  have hw0 := hb0.size
  have hw0W := hbW.size
  have hpx : ∀ a, xo = some a → a.block ≠ p := fun a ha => by
    rcases hx a ha with h4 | h4
    · intro e; exact h.apart (mem_blk.2 ⟨a, h4, e⟩)
    · have := h.lt p h.pF; omega
  have hset := Chg.one w3 p 0 (.slice xo (n + 1) xc)
  have hbl : ∀ a, e.vo = some a → a.block < w0.heap.size := fun a ha => (hbody.at_ a ha).2.1
  refine ⟨F ++ blk xo ++ blk e.vo, ⟨xo, n + 1, xc, l ++ [e], ⟨ep, heap_set hp3 0 _, ho.keep hset (fun a ha e => hpx a ha e), fun hk => ?_, fun y hy => ?_, by simp [h.pF], fun k hk => by simp [hk], fun k hk => ?_⟩⟩, hC3.set h.pF 0 _, fun k hk => ?_⟩
  · obtain ⟨a, ha, ea⟩ := mem_blk.1 hk
    exact hpx a ha ea
  · have hy' : y = e ∨ y ∈ l := by
      rcases List.mem_append.1 hy with hy | hy
      · exact .inr hy
      · exact .inl (by simpa using hy)
    rcases hy' with rfl | hy'
    · have hnp : ∀ a, y.vo = some a → a.block ≠ p := fun a ha => by have := hnew a ha; have := h.lt p h.pF; omega
      have hnl : ∀ a, y.vo = some a → a.block ∉ blk lo := fun a ha hk => by have := hnew a ha; have := h.lt _ (h.bF _ hk); omega
      refine ⟨hset.row (hch.row (hbW.row hbody.row (fun _ _ h => h)) (fun a ha ⟨a', ha', ea⟩ => hnl a ha (mem_blk.2 ⟨a', ha', ea⟩))) (fun a ha h => hnp a ha h), hbody.le, fun a ha => ⟨by simp [mem_blk.2 ⟨a, ha, rfl⟩], hnp a ha, fun hk => ?_⟩⟩
      obtain ⟨a', ha', ea⟩ := mem_blk.1 hk
      rcases hx a' ha' with h4 | h4
      · exact hnl a ha (mem_blk.2 ⟨a', h4, ea⟩)
      · have := hbl a ha; omega
    · obtain ⟨b1, b2, b3⟩ := h.body y hy'
      refine ⟨hset.row (hch.row (hC.row b1 (fun _ _ h => h)) (fun a ha ⟨a', ha', ea⟩ => (b3 a ha).2.2 (mem_blk.2 ⟨a', ha', ea⟩))) (fun a ha h => (b3 a ha).2.1 h), b2, fun a ha => ⟨by simp [(b3 a ha).1], (b3 a ha).2.1, fun hk => ?_⟩⟩
      obtain ⟨a', ha', ea⟩ := mem_blk.1 hk
      rcases hx a' ha' with h4 | h4
      · exact (b3 a ha).2.2 (mem_blk.2 ⟨a', h4, ea⟩)
      · have := h.lt _ (b3 a ha).1; omega
  · have hs5 := hset.size
    rcases List.mem_append.1 hk with hk | hk
    · rcases List.mem_append.1 hk with hk | hk
      · have := h.lt k hk; omega
      · obtain ⟨a, ha, ea⟩ := mem_blk.1 hk
        have := (ho.at_ a ha).2.1; omega
    · obtain ⟨a, ha, ea⟩ := mem_blk.1 hk
      have := hbl a ha; omega
  · rcases List.mem_append.1 hk with hk | hk
    · rcases List.mem_append.1 hk with hk | hk
      · exact .inl hk
      · obtain ⟨a, ha, ea⟩ := mem_blk.1 hk
        rcases hx a ha with h4 | h4
        · exact .inl (h.bF k (mem_blk.2 ⟨a, h4, ea⟩))
        · right; omega
    · obtain ⟨a, ha, ea⟩ := mem_blk.1 hk
      right; have := hnew a ha; omega
/-- A node that may stand at place k of a tree's list. -/
def Good (es : List Nd) (k : Nat) (e : Nd) : Prop := e.key.size ≠ 0 ∧ e.key.size ≤ 64 ∧ e.body.length ≤ 3840 ∧ e.ver ≠ 0 ∧ (k = 0 ∨ ∃ q d, k = q + 1 ∧ es[q]? = some d ∧ Op.bytesLess d.key.toList e.key.toList = true)
theorem first_bad (es : List Nd) : ∀ n, (∀ k, k < n → ∀ e, es[k]? = some e → Good es k e) ∨ ∃ k, k < n ∧ ∃ e, es[k]? = some e ∧ ¬ Good es k e ∧ ∀ j, j < k → ∀ d, es[j]? = some d → Good es j d
  | 0 => .inl (fun k hk => by omega)
  | n + 1 => by
    rcases first_bad es n with h | ⟨k, hk, h⟩
    · by_cases hg : ∀ e, es[n]? = some e → Good es n e
      · left
        intro k hk e he
        by_cases hkn : k < n
        · exact h k hkn e he
        · obtain rfl : k = n := by omega
          exact hg e he
      · right
        obtain ⟨e, he⟩ := Classical.not_forall.1 hg
        obtain ⟨he, hb⟩ := Classical.not_imp.1 he
        exact ⟨n, by omega, e, he, hb, h⟩
    · exact .inr ⟨k, by omega, h⟩
theorem bad_why {es : List Nd} {k : Nat} {e : Nd} (hl : k < es.length) (h : ¬ Good es k e) :
    e.key.size = 0 ∨ (e.key.size ≠ 0 ∧ 64 < e.key.size) ∨ (e.key.size ≠ 0 ∧ e.key.size ≤ 64 ∧ 3840 < e.body.length) ∨ (e.key.size ≠ 0 ∧ e.key.size ≤ 64 ∧ e.body.length ≤ 3840 ∧ e.ver = 0) ∨ (e.key.size ≠ 0 ∧ e.key.size ≤ 64 ∧ e.body.length ≤ 3840 ∧ e.ver ≠ 0 ∧ ∃ q d, k = q + 1 ∧ es[q]? = some d ∧ Op.bytesLess d.key.toList e.key.toList = false) := by
  unfold Good at h
  by_cases h1 : e.key.size = 0
  · exact .inl h1
  · by_cases h2 : e.key.size ≤ 64
    · by_cases h3 : e.body.length ≤ 3840
      · by_cases h4 : e.ver = 0
        · exact .inr (.inr (.inr (.inl ⟨h1, h2, h3, h4⟩)))
        · refine .inr (.inr (.inr (.inr ⟨h1, h2, h3, h4, ?_⟩)))
          cases k with
          | zero => exact absurd ⟨h1, h2, h3, h4, .inl rfl⟩ h
          | succ q =>
            refine ⟨q, es[q], rfl, List.getElem?_eq_getElem (by omega), ?_⟩
            cases hd : Op.bytesLess es[q].key.toList e.key.toList with
            | false => rfl
            | true => exact absurd ⟨h1, h2, h3, h4, .inr ⟨q, es[q], rfl, List.getElem?_eq_getElem (by omega), hd⟩⟩ h
      · exact .inr (.inr (.inl ⟨h1, h2, by omega⟩))
    · exact .inr (.inl ⟨h1, by omega⟩)
theorem bdrew {w w' : World} (h : Below w.heap.size w w') (n : Nat) : Below w.heap.size w (w'.drewN n) :=
  h.trans (((Chg.refl (fun _ => False) w').drewN n).below h.size (fun _ h => h.elim))
theorem loads_long (ao : Option Addr) (n c : Nat) (w : World) (hn : 256 < n) (hm : n ≤ 1000000) :
    Calls Try.prog 15 #[.slice ao n c] w fun r w' => r = .returned (.bool false) ∧ w = w' := by
  have h : (256 : Int) < (n : Int) := by omega
  go_enter Try.func15, Try.ntmps15
  go_wp2
  go_ret
  exact ⟨rfl, rfl⟩
set_option maxHeartbeats 4000000 in
set_option maxRecDepth 100000 in
theorem loads_to (ao : Option Addr) (n c K : Nat) (es : List Nd) (w : World) (res : Bool) (hn : es.length = n) (hr : Row w ao (es.flatMap Nd.cells)) (hm : n ≤ 256) (hK : K ≤ n) (hg : ∀ k, k < K → ∀ e, es[k]? = some e → Good es k e) (hend : res = true ∧ K = n ∨ res = false ∧ ∃ e, es[K]? = some e ∧ ¬ Good es K e) :
    Calls Try.prog 15 #[.slice ao n c] w fun r w' => r = .returned (.bool res) ∧ Below w.heap.size w w' := by
  have HK := Lib.hid hend
  have HX := Lib.hid (And.intro hn (And.intro hr hg))
  have h256 : ¬ (256 : Int) < (n : Int) := by omega
  clear hn hr hg hend
  go_enter Try.func15, Try.ntmps15
  go_wp2
  go_loopg [3] K (fun g v wr => ∃ k : Nat, g + k = K ∧ v = .int .i64 k ∧ Below w.heap.size w wr)
  case atStart => exact ⟨0, by omega, rfl, Below.refl _ _⟩
  case round =>
    obtain ⟨k, hgk, rfl, hb⟩ := hrel
    have hrw := HX.out.2.1.below hb
    have HB := Lib.hid hb
    clear hb
    by_cases hk : k < K
    · have hkn : k < n := by omega
      obtain ⟨e, he⟩ : ∃ e, es[k]? = some e := ⟨_, List.getElem?_eq_getElem (by rw [HX.out.1]; exact hkn)⟩
      obtain ⟨g1, g2, g3, g4, g5⟩ := HX.out.2.2 k hk e he
      obtain ⟨b, off, rfl, c0, c1, c2, c3⟩ := nd_at hrw he
      have i1 : decide ((e.key.size : Int) < 1) = false := decide_eq_false (by omega)
      have i1' : ¬ (e.key.size : Int) < 1 := by omega
      have i2 : decide ((64 : Int) < (e.key.size : Int)) = false := decide_eq_false (by omega)
      have i2' : ¬ (64 : Int) < (e.key.size : Int) := by omega
      have i3 : decide ((3840 : Int) < (e.body.length : Int)) = false := decide_eq_false (by omega)
      have i3' : ¬ (3840 : Int) < (e.body.length : Int) := by omega
      have i4 : ((e.ver : Int) == 0) = false := by simp; omega
      clear g1 g2 g3 g4 he
      rcases g5 with rfl | ⟨q, d, rfl, hd, hlt⟩
      · clear hrw
        simp only [Nat.zero_mul, Nat.add_zero] at c0 c1 c2 c3
        as_aux_lemma =>
          go_wp2
          go_quiet (fail)
          go_wp2
          go_roundg (gk - 1)
          case measure => omega
          case rel => exact ⟨1, by omega, by go_num, bdrew HB.out _⟩
      · obtain ⟨b', off', hab, d0, _, _, _⟩ := nd_at hrw hd
        cases hab
        have j0 : (0 : Int) < ((q + 1 : Nat) : Int) := by omega
        have j1 := IntWalk.i64_in (((q + 1 : Nat) : Int) - 1) (by omega)
        have j2 : (((q + 1 : Nat) : Int) - 1).toNat = q := by omega
        have j3 : ((q + 1 : Nat) : Int) - 1 = (q : Int) := by omega
        have j5 : q < n := by omega
        clear hrw hd
        as_aux_lemma =>
          go_wp2
          go_quiet (fail)
          go_wp2
          go_roundg (gk - 1)
          case measure => omega
          case rel => exact ⟨q + 1 + 1, by omega, by go_num, bdrew HB.out _⟩
    · obtain rfl : k = K := by omega
      rcases HK.out with ⟨rfl, rfl⟩ | ⟨rfl, e, he, hbad⟩
      · clear hrw
        as_aux_lemma =>
          go_wp2
          go_ret
          exact ⟨rfl, HB.out⟩
      · have hkn : k < n := by have := (List.getElem?_eq_some_iff.1 he).1; have := HX.out.1; omega
        obtain ⟨b, off, rfl, c0, c1, c2, c3⟩ := nd_at hrw he
        rcases bad_why (by have := HX.out.1; omega) hbad with h | ⟨h1, h⟩ | ⟨h1, h2, h⟩ | ⟨h1, h2, h3, h⟩ | ⟨h1, h2, h3, h4, q, d, rfl, hd, h⟩
        · have i1 : (e.key.size : Int) < 1 := by omega
          clear h he hbad hrw
          as_aux_lemma =>
            go_wp2
            go_ret
            exact ⟨rfl, HB.out⟩
        · have i1 : decide ((e.key.size : Int) < 1) = false := decide_eq_false (by omega)
          have i1' : ¬ (e.key.size : Int) < 1 := by omega
          have i2 : (64 : Int) < (e.key.size : Int) := by omega
          clear h h1 he hbad hrw
          as_aux_lemma =>
            go_wp2
            go_ret
            exact ⟨rfl, HB.out⟩
        · have i1 : decide ((e.key.size : Int) < 1) = false := decide_eq_false (by omega)
          have i1' : ¬ (e.key.size : Int) < 1 := by omega
          have i2 : decide ((64 : Int) < (e.key.size : Int)) = false := decide_eq_false (by omega)
          have i2' : ¬ (64 : Int) < (e.key.size : Int) := by omega
          have i3 : (3840 : Int) < (e.body.length : Int) := by omega
          clear h h1 h2 he hbad hrw
          as_aux_lemma =>
            go_wp2
            go_ret
            exact ⟨rfl, HB.out⟩
        · have i1 : decide ((e.key.size : Int) < 1) = false := decide_eq_false (by omega)
          have i1' : ¬ (e.key.size : Int) < 1 := by omega
          have i2 : decide ((64 : Int) < (e.key.size : Int)) = false := decide_eq_false (by omega)
          have i2' : ¬ (64 : Int) < (e.key.size : Int) := by omega
          have i3 : decide ((3840 : Int) < (e.body.length : Int)) = false := decide_eq_false (by omega)
          have i3' : ¬ (3840 : Int) < (e.body.length : Int) := by omega
          have i4 : ((e.ver : Int) == 0) = true := by simp; omega
          clear h h1 h2 h3 he hbad hrw
          as_aux_lemma =>
            go_wp2
            go_ret
            exact ⟨rfl, HB.out⟩
        · obtain ⟨b', off', hab, d0, _, _, _⟩ := nd_at hrw hd
          cases hab
          have i1 : decide ((e.key.size : Int) < 1) = false := decide_eq_false (by omega)
          have i1' : ¬ (e.key.size : Int) < 1 := by omega
          have i2 : decide ((64 : Int) < (e.key.size : Int)) = false := decide_eq_false (by omega)
          have i2' : ¬ (64 : Int) < (e.key.size : Int) := by omega
          have i3 : decide ((3840 : Int) < (e.body.length : Int)) = false := decide_eq_false (by omega)
          have i3' : ¬ (3840 : Int) < (e.body.length : Int) := by omega
          have i4 : ((e.ver : Int) == 0) = false := by simp; omega
          have j0 : (0 : Int) < ((q + 1 : Nat) : Int) := by omega
          have j1 := IntWalk.i64_in (((q + 1 : Nat) : Int) - 1) (by omega)
          have j2 : (((q + 1 : Nat) : Int) - 1).toNat = q := by omega
          have j3 : ((q + 1 : Nat) : Int) - 1 = (q : Int) := by omega
          have j5 : q < n := by omega
          clear h1 h2 h3 h4 he hbad hrw hd
          as_aux_lemma =>
            go_wp2
            go_quiet (fail)
            go_wp2
            go_ret
            exact ⟨rfl, bdrew HB.out _⟩
end Go.Proofs.Ytebhbfjnobcckaa
