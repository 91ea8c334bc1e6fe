/-
  JOINED BY fam.py out of: TreeI, TreeJ, TreeK, TreeW:less_iff,less_keys.
-/
import Derived.Test.YtackmgmaippajaaGreatFTb
-- part TreeI
namespace Go.Proofs.YtackmgmaippajaaGreat.Tr
set_option maxRecDepth 100000
open Go Go.RowKit

/-- What an element more leaves. -/
theorem app_end {w w0 W w3 : World} {p n cap xc : Nat} {lo xo : Option Addr} {l : List Nd} {ps : List Pl} {F : List Nat} {e : Nd} (h : TreeIs w p lo n cap l ps F) (hb0 : Chg (fun _ => False) w w0) (hbW : Chg (fun _ => False) w0 W) 
    (hbody : Own w0 1 e.vo e.body.length e.vc (e.body.map cb)) (hnew : ∀ a, e.vo = some a → w.heap.size ≤ a.block) (ho : Own w3 4 xo (n + 1) xc (l.flatMap Nd.cells ++ e.cells)) (hch : Chg (fun k => ∃ a, lo = some a ∧ a.block = k) W w3) (hx : ∀ a, xo = some a → lo = some a ∨ W.heap.size ≤ a.block)
    (hp3 : w3.heap[p]? = some (.cells #[.slice lo n cap] 144 (0, 0))) :
    Wrote w (w3.setCell ⟨p, 0, none⟩ (.slice xo (n + 1) xc)) p (ps ++ [e.pl]) F := by
  obtain ⟨hl1, hl2⟩ := h.len
  have el : l.flatMap Nd.cells ++ e.cells = (l ++ [e]).flatMap Nd.cells := by simp
  have ep : (l ++ [e]).map Nd.pl = ps ++ [e.pl] := by rw [List.map_append, h.map]; rfl
  rw [el] at ho
  have hC : Chg (fun _ => False) w W := hb0.trans hbW (fun _ _ h => h)
  have hC3 : Chg (· ∈ F) w w3 := (hC.to (fun _ h => h.elim)).trans hch (fun k hk ⟨a, ha, ea⟩ => h.bF k (mem_blk.2 ⟨a, ha, ea⟩))
  have hW := hC.size
  have h3 := hch.size
  have hw0 := hb0.size
  have hw0W := hbW.size
  have hpx : ∀ a, xo = some a → a.block ≠ p := fun a ha => by
    rcases hx a ha with h4 | h4
    · intro e; exact h.apart (mem_blk.2 ⟨a, h4, e⟩)
    · have := h.lt p h.pF; omega
  have hset := Chg.one w3 p 0 (.slice xo (n + 1) xc)
  have hbl : ∀ a, e.vo = some a → a.block < w0.heap.size := fun a ha => (hbody.at_ a ha).2.1
  refine ⟨F ++ blk xo ++ blk e.vo, ⟨xo, n + 1, xc, l ++ [e], ⟨ep, heap_set hp3 0 _, ho.keep hset (fun a ha e => hpx a ha e), fun hk => ?_, fun y hy => ?_, by simp [h.pF], fun k hk => by simp [hk], fun k hk => ?_⟩⟩, hC3.set h.pF 0 _, fun k hk => ?_⟩
  · obtain ⟨a, ha, ea⟩ := mem_blk.1 hk
    exact hpx a ha ea
  · have hy' : y = e ∨ y ∈ l := by
      rcases List.mem_append.1 hy with hy | hy
      · exact .inr hy
      · exact .inl (by simpa using hy)
    rcases hy' with rfl | hy'
    · have hnp : ∀ a, y.vo = some a → a.block ≠ p := fun a ha => by have := hnew a ha; have := h.lt p h.pF; omega
      have hnl : ∀ a, y.vo = some a → a.block ∉ blk lo := fun a ha hk => by have := hnew a ha; have := h.lt _ (h.bF _ hk); omega
      refine ⟨hset.row (hch.row (hbW.row hbody.row (fun _ _ h => h)) (fun a ha ⟨a', ha', ea⟩ => hnl a ha (mem_blk.2 ⟨a', ha', ea⟩))) (fun a ha h => hnp a ha h), hbody.le, fun a ha => ⟨by simp [mem_blk.2 ⟨a, ha, rfl⟩], hnp a ha, fun hk => ?_⟩⟩
      obtain ⟨a', ha', ea⟩ := mem_blk.1 hk
      rcases hx a' ha' with h4 | h4
      · exact hnl a ha (mem_blk.2 ⟨a', h4, ea⟩)
      · have := hbl a ha; omega
    · obtain ⟨b1, b2, b3⟩ := h.body y hy'
      refine ⟨hset.row (hch.row (hC.row b1 (fun _ _ h => h)) (fun a ha ⟨a', ha', ea⟩ => (b3 a ha).2.2 (mem_blk.2 ⟨a', ha', ea⟩))) (fun a ha h => (b3 a ha).2.1 h), b2, fun a ha => ⟨by simp [(b3 a ha).1], (b3 a ha).2.1, fun hk => ?_⟩⟩
      obtain ⟨a', ha', ea⟩ := mem_blk.1 hk
      rcases hx a' ha' with h4 | h4
      · exact (b3 a ha).2.2 (mem_blk.2 ⟨a', h4, ea⟩)
      · have := h.lt _ (b3 a ha).1; omega
  · have hs5 := hset.size
    rcases List.mem_append.1 hk with hk | hk
    · rcases List.mem_append.1 hk with hk | hk
      · have := h.lt k hk; omega
      · obtain ⟨a, ha, ea⟩ := mem_blk.1 hk
        have := (ho.at_ a ha).2.1; omega
    · obtain ⟨a, ha, ea⟩ := mem_blk.1 hk
      have := hbl a ha; omega
  · rcases List.mem_append.1 hk with hk | hk
    · rcases List.mem_append.1 hk with hk | hk
      · exact .inl hk
      · obtain ⟨a, ha, ea⟩ := mem_blk.1 hk
        rcases hx a ha with h4 | h4
        · exact .inl (h.bF k (mem_blk.2 ⟨a, h4, ea⟩))
        · right; omega
    · obtain ⟨a, ha, ea⟩ := mem_blk.1 hk
      right; have := hnew a ha; omega
/-- A node that may stand at place k of a tree's list. -/
def Good (es : List Nd) (k : Nat) (e : Nd) : Prop := e.key.size ≠ 0 ∧ e.key.size ≤ 64 ∧ e.body.length ≤ 3840 ∧ e.ver ≠ 0 ∧ (k = 0 ∨ ∃ q d, k = q + 1 ∧ es[q]? = some d ∧ Op.bytesLess d.key.toList e.key.toList = true)
theorem first_bad (es : List Nd) : ∀ n, (∀ k, k < n → ∀ e, es[k]? = some e → Good es k e) ∨ ∃ k, k < n ∧ ∃ e, es[k]? = some e ∧ ¬ Good es k e ∧ ∀ j, j < k → ∀ d, es[j]? = some d → Good es j d
  | 0 => .inl (fun k hk => by omega)
  | n + 1 => by
    rcases first_bad es n with h | ⟨k, hk, h⟩
    · by_cases hg : ∀ e, es[n]? = some e → Good es n e
      · left
        intro k hk e he
        by_cases hkn : k < n
        · exact h k hkn e he
        · obtain rfl : k = n := by omega
          exact hg e he
      · right
        obtain ⟨e, he⟩ := Classical.not_forall.1 hg
        obtain ⟨he, hb⟩ := Classical.not_imp.1 he
        exact ⟨n, by omega, e, he, hb, h⟩
    · exact .inr ⟨k, by omega, h⟩
theorem bad_why {es : List Nd} {k : Nat} {e : Nd} (hl : k < es.length) (h : ¬ Good es k e) :
    e.key.size = 0 ∨ (e.key.size ≠ 0 ∧ 64 < e.key.size) ∨ (e.key.size ≠ 0 ∧ e.key.size ≤ 64 ∧ 3840 < e.body.length) ∨ (e.key.size ≠ 0 ∧ e.key.size ≤ 64 ∧ e.body.length ≤ 3840 ∧ e.ver = 0) ∨ (e.key.size ≠ 0 ∧ e.key.size ≤ 64 ∧ e.body.length ≤ 3840 ∧ e.ver ≠ 0 ∧ ∃ q d, k = q + 1 ∧ es[q]? = some d ∧ Op.bytesLess d.key.toList e.key.toList = false) := by
  unfold Good at h
  by_cases h1 : e.key.size = 0
  · exact .inl h1
  · by_cases h2 : e.key.size ≤ 64
    · by_cases h3 : e.body.length ≤ 3840
      · by_cases h4 : e.ver = 0
        · exact .inr (.inr (.inr (.inl ⟨h1, h2, h3, h4⟩)))
        · refine .inr (.inr (.inr (.inr ⟨h1, h2, h3, h4, ?_⟩)))
          cases k with
          | zero => exact absurd ⟨h1, h2, h3, h4, .inl rfl⟩ h
          | succ q =>
            refine ⟨q, es[q], rfl, List.getElem?_eq_getElem (by omega), ?_⟩
            cases hd : Op.bytesLess es[q].key.toList e.key.toList with
            | false => rfl
            | true => exact absurd ⟨h1, h2, h3, h4, .inr ⟨q, es[q], rfl, List.getElem?_eq_getElem (by omega), hd⟩⟩ h
      · exact .inr (.inr (.inl ⟨h1, h2, by omega⟩))
    · exact .inr (.inl ⟨h1, by omega⟩)
theorem bdrew {w w' : World} (h : Below w.heap.size w w') (n : Nat) : Below w.heap.size w (w'.drewN n) :=
  h.trans (((Chg.refl (fun _ => False) w').drewN n).below h.size (fun _ h => h.elim))
theorem loads_long (ao : Option Addr) (n c : Nat) (w : World) (hn : 256 < n) (hm : n ≤ 1000000) :
    Calls Tryz.prog 101 #[.slice ao n c] w fun r w' => r = .returned (.bool false) ∧ w = w' := by
  have h : (256 : Int) < (n : Int) := by omega
  go_enter Tryz.func101, Tryz.ntmps101
  go_wp2
  go_ret
  exact ⟨rfl, rfl⟩
set_option maxHeartbeats 4000000 in
set_option maxRecDepth 100000 in
theorem loads_to (ao : Option Addr) (n c K : Nat) (es : List Nd) (w : World) (res : Bool) (hn : es.length = n) (hr : Row w ao (es.flatMap Nd.cells)) (hm : n ≤ 256) (hK : K ≤ n) (hg : ∀ k, k < K → ∀ e, es[k]? = some e → Good es k e) (hend : res = true ∧ K = n ∨ res = false ∧ ∃ e, es[K]? = some e ∧ ¬ Good es K e) :
    Calls Tryz.prog 101 #[.slice ao n c] w fun r w' => r = .returned (.bool res) ∧ Below w.heap.size w w' := by
  have HK := Lib.hid hend
  have HX := Lib.hid (And.intro hn (And.intro hr hg))
  have h256 : ¬ (256 : Int) < (n : Int) := by omega
  clear hn hr hg hend
  go_enter Tryz.func101, Tryz.ntmps101
  go_wp2
  go_loopg [3] K (fun g v wr => ∃ k : Nat, g + k = K ∧ v = .int .i64 k ∧ Below w.heap.size w wr)
  case atStart => exact ⟨0, by omega, rfl, Below.refl _ _⟩
  case round =>
    obtain ⟨k, hgk, rfl, hb⟩ := hrel
    have hrw := HX.out.2.1.below hb
    have HB := Lib.hid hb
    clear hb
    by_cases hk : k < K
    · have hkn : k < n := by omega
      obtain ⟨e, he⟩ : ∃ e, es[k]? = some e := ⟨_, List.getElem?_eq_getElem (by rw [HX.out.1]; exact hkn)⟩
      obtain ⟨g1, g2, g3, g4, g5⟩ := HX.out.2.2 k hk e he
      obtain ⟨b, off, rfl, c0, c1, c2, c3⟩ := nd_at hrw he
      have i1 : decide ((e.key.size : Int) < 1) = false := decide_eq_false (by omega)
      have i1' : ¬ (e.key.size : Int) < 1 := by omega
      have i2 : decide ((64 : Int) < (e.key.size : Int)) = false := decide_eq_false (by omega)
      have i2' : ¬ (64 : Int) < (e.key.size : Int) := by omega
      have i3 : decide ((3840 : Int) < (e.body.length : Int)) = false := decide_eq_false (by omega)
      have i3' : ¬ (3840 : Int) < (e.body.length : Int) := by omega
      have i4 : ((e.ver : Int) == 0) = false := by simp; omega
      clear g1 g2 g3 g4 he
      rcases g5 with rfl | ⟨q, d, rfl, hd, hlt⟩
      · clear hrw
        simp only [Nat.zero_mul, Nat.add_zero] at c0 c1 c2 c3
        as_aux_lemma =>
          go_wp2
          go_quiet (fail)
          go_wp2
          go_roundg (gk - 1)
          case measure => omega
          case rel => exact ⟨1, by omega, by go_num, bdrew HB.out _⟩
      · obtain ⟨b', off', hab, d0, _, _, _⟩ := nd_at hrw hd
        cases hab
        have j0 : (0 : Int) < ((q + 1 : Nat) : Int) := by omega
        have j1 := IntWalk.i64_in (((q + 1 : Nat) : Int) - 1) (by omega)
        have j2 : (((q + 1 : Nat) : Int) - 1).toNat = q := by omega
        have j3 : ((q + 1 : Nat) : Int) - 1 = (q : Int) := by omega
        have j5 : q < n := by omega
        clear hrw hd
        as_aux_lemma =>
          go_wp2
          go_quiet (fail)
          go_wp2
          go_roundg (gk - 1)
          case measure => omega
          case rel => exact ⟨q + 1 + 1, by omega, by go_num, bdrew HB.out _⟩
    · obtain rfl : k = K := by omega
      rcases HK.out with ⟨rfl, rfl⟩ | ⟨rfl, e, he, hbad⟩
      · clear hrw
        as_aux_lemma =>
          go_wp2
          go_ret
          exact ⟨rfl, HB.out⟩
      · have hkn : k < n := by have := (List.getElem?_eq_some_iff.1 he).1; have := HX.out.1; omega
        obtain ⟨b, off, rfl, c0, c1, c2, c3⟩ := nd_at hrw he
        rcases bad_why (by have := HX.out.1; omega) hbad with h | ⟨h1, h⟩ | ⟨h1, h2, h⟩ | ⟨h1, h2, h3, h⟩ | ⟨h1, h2, h3, h4, q, d, rfl, hd, h⟩
        · have i1 : (e.key.size : Int) < 1 := by omega
          clear h he hbad hrw
          as_aux_lemma =>
            go_wp2
            go_ret
            exact ⟨rfl, HB.out⟩
        · have i1 : decide ((e.key.size : Int) < 1) = false := decide_eq_false (by omega)
          have i1' : ¬ (e.key.size : Int) < 1 := by omega
          have i2 : (64 : Int) < (e.key.size : Int) := by omega
          clear h h1 he hbad hrw
          as_aux_lemma =>
            go_wp2
            go_ret
            exact ⟨rfl, HB.out⟩
        · have i1 : decide ((e.key.size : Int) < 1) = false := decide_eq_false (by omega)
          have i1' : ¬ (e.key.size : Int) < 1 := by omega
          have i2 : decide ((64 : Int) < (e.key.size : Int)) = false := decide_eq_false (by omega)
          have i2' : ¬ (64 : Int) < (e.key.size : Int) := by omega
          have i3 : (3840 : Int) < (e.body.length : Int) := by omega
          clear h h1 h2 he hbad hrw
          as_aux_lemma =>
            go_wp2
            go_ret
            exact ⟨rfl, HB.out⟩
        · have i1 : decide ((e.key.size : Int) < 1) = false := decide_eq_false (by omega)
          have i1' : ¬ (e.key.size : Int) < 1 := by omega
          have i2 : decide ((64 : Int) < (e.key.size : Int)) = false := decide_eq_false (by omega)
          have i2' : ¬ (64 : Int) < (e.key.size : Int) := by omega
          have i3 : decide ((3840 : Int) < (e.body.length : Int)) = false := decide_eq_false (by omega)
          have i3' : ¬ (3840 : Int) < (e.body.length : Int) := by omega
          have i4 : ((e.ver : Int) == 0) = true := by simp; omega
          clear h h1 h2 h3 he hbad hrw
          as_aux_lemma =>
            go_wp2
            go_ret
            exact ⟨rfl, HB.out⟩
        · obtain ⟨b', off', hab, d0, _, _, _⟩ := nd_at hrw hd
          cases hab
          have i1 : decide ((e.key.size : Int) < 1) = false := decide_eq_false (by omega)
          have i1' : ¬ (e.key.size : Int) < 1 := by omega
          have i2 : decide ((64 : Int) < (e.key.size : Int)) = false := decide_eq_false (by omega)
          have i2' : ¬ (64 : Int) < (e.key.size : Int) := by omega
          have i3 : decide ((3840 : Int) < (e.body.length : Int)) = false := decide_eq_false (by omega)
          have i3' : ¬ (3840 : Int) < (e.body.length : Int) := by omega
          have i4 : ((e.ver : Int) == 0) = false := by simp; omega
          have j0 : (0 : Int) < ((q + 1 : Nat) : Int) := by omega
          have j1 := IntWalk.i64_in (((q + 1 : Nat) : Int) - 1) (by omega)
          have j2 : (((q + 1 : Nat) : Int) - 1).toNat = q := by omega
          have j3 : ((q + 1 : Nat) : Int) - 1 = (q : Int) := by omega
          have j5 : q < n := by omega
          clear h1 h2 h3 h4 he hbad hrw hd
          as_aux_lemma =>
            go_wp2
            go_quiet (fail)
            go_wp2
            go_ret
            exact ⟨rfl, bdrew HB.out _⟩
end Go.Proofs.YtackmgmaippajaaGreat.Tr
-- part TreeJ
namespace Go.Proofs.YtackmgmaippajaaGreat.Tr
set_option maxRecDepth 100000
open Go Go.RowKit

theorem key_none {key : ByteArray} (h : key.size = 0) : key.toList.isEmpty = true ∧ key.toList = [] := by
  have h1 : key.toList = [] := by
    rw [ba_toList]
    have : key.data.toList.length = 0 := by rw [Array.length_toList]; exact h
    exact List.eq_nil_of_length_eq_zero this
  exact ⟨by rw [h1]; rfl, h1⟩
theorem load_long (ao : Option Addr) (n c : Nat) (w : World) (hn : 256 < n) (hm : n ≤ 1000000) :
    Calls Tryz.prog 77 #[.slice ao n c] w fun r w' => r = .returned (.tuple #[.pointer none, .bool false]) ∧ Below w.heap.size w w' := by
  have h : (256 : Int) < (n : Int) := by omega
  go_enter Tryz.func77, Tryz.ntmps77
  go_wp2_with (go_at_call 67; (with_reducible refine (new_any _).mono ?_); rintro r w1 ⟨rfl, hb, _⟩; have H1 := Lib.hid hb; clear hb)
  go_ret2
  exact ⟨rfl, H1.out⟩
def LoadPost (res : Bool) (es : List Nd) (w : World) (r : Ending) (w' : World) : Prop := Below w.heap.size w w' ∧ (res = false ∧ r = .returned (.tuple #[.pointer none, .bool false]) ∨ res = true ∧ ∃ p F, r = .returned (.tuple #[.pointer (some ⟨p, 0, none⟩), .bool true]) ∧ TreeAt w' p (es.map Nd.pl) F ∧ ∀ k ∈ F, w.heap.size ≤ k)
set_option maxHeartbeats 8000000 in
set_option maxRecDepth 100000 in
theorem load_to (ao : Option Addr) (n c K : Nat) (es : List Nd) (w : World) (res : Bool) (hn : es.length = n) (hr : NodesAt w ao es) (hm : n ≤ 256) (hK : K ≤ n) (hg : ∀ k, k < K → ∀ e, es[k]? = some e → Good es k e) (hend : res = true ∧ K = n ∨ res = false ∧ ∃ e, es[K]? = some e ∧ ¬ Good es K e) :
    Calls Tryz.prog 77 #[.slice ao n c] w fun r w' => LoadPost res es w r w' := by
  have HK := Lib.hid hend
  have HX := Lib.hid (And.intro hn (And.intro hr hg))
  have h256 : ¬ (256 : Int) < (n : Int) := by omega
  clear hn hr hg hend
  go_enter Tryz.func77, Tryz.ntmps77
  go_wp2_with (go_at_call 67; (with_reducible refine (new_any _).mono ?_); rintro r w1 ⟨rfl, hb, ht⟩; have H1 := Lib.hid (And.intro hb ht); clear hb ht)
  obtain ⟨p, hp⟩ : ∃ p, p = w.heap.size := ⟨_, rfl⟩
  have HP := Lib.hid hp
  rw [← hp] at H1 ⊢
  clear hp
  go_loopg [13] K (fun g v wr => ∃ (k : Nat) (F : List Nat), g + k = K ∧ v = .int .i64 k ∧ TreeAt wr p ((es.map Nd.pl).take k) F ∧ (∀ j ∈ F, w.heap.size ≤ j) ∧ Below w.heap.size w wr)
  case atStart => exact ⟨0, [p], by omega, rfl, H1.out.2, fun j hj => by rw [List.mem_singleton] at hj; rw [hj, HP.out]; exact Nat.le_refl _, by have := H1.out.1; rw [HP.out] at this; exact this⟩
  case round =>
    clear H1
    obtain ⟨k, F, hgk, rfl, ht, hnF, hb⟩ := hrel
    have hrw := HX.out.2.1.1.below hb
    have HR := Lib.hid (And.intro ht (And.intro hnF hb))
    clear hb ht hnF
    by_cases hk : k < K
    · have hkn : k < n := by omega
      obtain ⟨e, he⟩ : ∃ e, es[k]? = some e := ⟨_, List.getElem?_eq_getElem (by rw [HX.out.1]; exact hkn)⟩
      obtain ⟨g1, g2, g3, g4, g5⟩ := HX.out.2.2 k hk e he
      obtain ⟨b, off, rfl, c0, c1, c2, c3⟩ := nd_at hrw he
      have HE := Lib.hid (And.intro he (And.intro (HX.out.2.1.2 e (List.mem_of_getElem? he)) g3))
      obtain ⟨i1, i1'⟩ := key_facts g1
      have i2 : decide ((64 : Int) < (e.key.size : Int)) = false := decide_eq_false (by omega)
      have i3 : decide ((3840 : Int) < (e.body.length : Int)) = false := decide_eq_false (by omega)
      have i4 : ((e.ver : Int) == 0) = false := by simp; omega
      obtain ⟨u0, u1, u2, u3, _⟩ := cells4 (heap_top wr (.cells #[.string e.key, .slice e.vo e.body.length e.vc, .int .u64 (e.ver : Int), .int .u64 (e.own : Int)] 78))
      clear g1 g2 g4 he
      go_upto_region 7 with fail
      go_cut [52] (fun v wx => v = .bool false ∧ ∃ nq, wx = (wr.alloc (.cells #[.string e.key, .slice e.vo e.body.length e.vc, .int .u64 (e.ver : Int), .int .u64 (e.own : Int)] 78)).drewN nq)
      case first =>
        rcases g5 with rfl | ⟨q, d, rfl, hd, hlt⟩
        · clear hrw
          simp only [Nat.zero_mul, Nat.add_zero] at c0 c1 c2 c3
          as_aux_lemma =>
            go_quiet (fail)
            go_wp2
            go_meet
            exact ⟨rfl, nq, rfl⟩
        · obtain ⟨b', off', hab, d0, _, _, _⟩ := nd_at hrw hd
          cases hab
          have dd0 := alloc_cell (o := (.cells #[.string e.key, .slice e.vo e.body.length e.vc, .int .u64 (e.ver : Int), .int .u64 (e.own : Int)] 78)) d0
          have j0 : (0 : Int) < ((q + 1 : Nat) : Int) := by omega
          have j1 := IntWalk.i64_in (((q + 1 : Nat) : Int) - 1) (by omega)
          have j2 : (((q + 1 : Nat) : Int) - 1).toNat = q := by omega
          have j3 : ((q + 1 : Nat) : Int) - 1 = (q : Int) := by omega
          have j5 : q < n := by omega
          clear hrw hd
          as_aux_lemma =>
            go_quiet (fail)
            go_wp2
            go_meet
            exact ⟨rfl, nq, rfl⟩
      case rest =>
        clear g5 hrw i1 i1' i2 i3 i4 c0 c1 c2 c3 u0 u1 u2 u3
        -- BEGIN1
        as_aux_lemma =>
          obtain ⟨rfl, nq, rfl⟩ := hcut
          go_upto_region 9 with fail
          have hb1 := bdrew ((Below.refl _ wr).alloc (Nat.le_refl _) (.cells #[.string e.key, .slice e.vo e.body.length e.vc, .int .u64 (e.ver : Int), .int .u64 (e.own : Int)] 78)) nq
          have hT1 := (heap_top wr (.cells #[.string e.key, .slice e.vo e.body.length e.vc, .int .u64 (e.ver : Int), .int .u64 (e.own : Int)] 78))
          have hI1 := HR.out.1.keep (Chg.of_below hb1 (fun _ => False)) (fun _ _ h => h)
          have hT2 : ((wr.alloc (.cells #[.string e.key, .slice e.vo e.body.length e.vc, .int .u64 (e.ver : Int), .int .u64 (e.own : Int)] 78)).drewN nq).heap[wr.heap.size]? = some (.cells #[.string e.key, .slice e.vo e.body.length e.vc, .int .u64 (e.ver : Int), .int .u64 (e.own : Int)] 78) := hT1
          generalize (wr.alloc (.cells #[.string e.key, .slice e.vo e.body.length e.vc, .int .u64 (e.ver : Int), .int .u64 (e.own : Int)] 78)).drewN nq = W at *
          obtain ⟨t0, t1, t2, t3, _⟩ := cells4 hT2
          obtain ⟨lo, m, cap, l, hI1⟩ := hI1
          obtain ⟨z0, z2⟩ := cells1 hI1.heap
          have hml := hI1.len.2
          rw [List.length_take, List.length_map, HX.out.1, Nat.min_eq_left (by omega)] at hml
          have hm256 : m ≤ 256 := by omega
          clear hml
          have HCO := Lib.hid (show Calls Tryz.prog 76 #[.agg #[.string e.key, .slice e.vo e.body.length e.vc, .int .u64 (e.ver : Int), .int .u64 (e.own : Int)]] W.drew (fun r w' => ∃ bo bc, r = .returned (.agg #[.string e.key, .slice bo e.body.length bc, .int .u64 (e.ver : Int), .int .u64 (e.own : Int)]) ∧ Below W.drew.heap.size W.drew w' ∧ Own w' 1 bo e.body.length bc (e.body.map cb) ∧ ∀ a, bo = some a → W.drew.heap.size ≤ a.block) from copied_any e W.drew ((HE.out.2.1.below (HR.out.2.2.trans (hb1.mono HR.out.2.2.size))).drew) (by omega))
          have z0d : W.drew.cell? ⟨p, 0, none⟩ = some (.slice lo m cap) := z0
          have t0d : W.drew.cell? ⟨wr.heap.size, 0, none⟩ = some (.string e.key) := t0
          have t1d : W.drew.cell? ⟨wr.heap.size, 1, none⟩ = some (.slice e.vo e.body.length e.vc) := t1
          have t2d : W.drew.cell? ⟨wr.heap.size, 2, none⟩ = some (.int .u64 (e.ver : Int)) := t2
          have t3d : W.drew.cell? ⟨wr.heap.size, 3, none⟩ = some (.int .u64 (e.own : Int)) := t3
          have HI1 := Lib.hid (And.intro hI1 hb1)
          have HZ := Lib.hid (show m + 1 ≤ maxLen ∧ (m + 1) * 56 ≤ 140737488355328 from ⟨by unfold maxLen; omega, by omega⟩)
          clear hI1 hb1 hT1 hT2 t0 t1 t2 t3 z0
          go_region_law (first
            | (refine step_append' rfl (.tmp 57) (.tmp 60) el_i rfl (c := 1) ?hs ?hx H3.out.1 (m := 1) (news := [.string e.key, .slice bo e.body.length bc, .int .u64 (e.ver : Int), .int .u64 (e.own : Int)]) rfl H3.out.2.1 (el_e.one ⟨e.key, e.body, e.ver, e.own, bo, bc⟩) HZ.out.1 HZ.out.2 ?_; (case hs => simp [Act.eval]); (case hx => simp [Act.eval]); intro xo xc w4 hx hch _ hx2; have hp4 := hch.heap H3.out.2.2.2.1 (fun ⟨a, ha, ea⟩ => HI1.out.1.apart (mem_blk.2 ⟨a, ha, ea⟩)); obtain ⟨f0, f2⟩ := cells1 hp4; have H4 := Lib.hid (And.intro (app_end (e := ⟨e.key, e.body, e.ver, e.own, bo, bc⟩) HI1.out.1 H3.out.2.2.2.2.1 H3.out.2.2.2.2.2.1 H3.out.2.2.2.2.2.2.1 H3.out.2.2.2.2.2.2.2 hx hch hx2 hp4) hp4); clear hx hch hx2 hp4)
            | (go_simp; go_at_call 76; (with_reducible refine HCO.out.mono ?_); rintro r w3 ⟨bo, bc, rfl, hb3, ho3, hn3⟩; have hC3 := (Chg.refl (fun _ => False) W).drew.trans (Chg.of_below hb3 (fun _ => False)) (fun _ _ h => h); have hA3 := (Chg.refl (fun _ => False) w3).alloc (.cells #[.string e.key, .slice bo e.body.length bc, .int .u64 (e.ver : Int), .int .u64 (e.own : Int)] 78); obtain ⟨u0, u2⟩ := cells1 (hC3.heap HI1.out.1.heap (fun h => h)); have u0a : (w3.alloc (.cells #[.string e.key, .slice bo e.body.length bc, .int .u64 (e.ver : Int), .int .u64 (e.own : Int)] 78)).cell? ⟨p, 0, none⟩ = some (.slice lo m cap) := alloc_cell u0; have H3 := Lib.hid (And.intro (HI1.out.1.own.keep (hC3.trans hA3 (fun _ _ h => h)) (fun _ _ h => h)) (And.intro (Row.alloc w3 #[.string e.key, .slice bo e.body.length bc, .int .u64 (e.ver : Int), .int .u64 (e.own : Int)] 78 (0, 0)) (And.intro trivial (And.intro (hA3.heap (hC3.heap HI1.out.1.heap (fun h => h)) (fun h => h)) (And.intro hC3 (And.intro hA3 (And.intro ho3 hn3))))))); clear hb3 ho3 hn3 hC3 hA3))
          all_goals go_wp2
          all_goals (
            go_roundg (gk - 1)
            case measure => omega
            case rel =>
              obtain ⟨F4, h4, h5, h6⟩ := H4.out.1
              have hsz := HI1.out.2.size
              refine ⟨k + 1, F4, by omega, by go_num, ?_, fun j hj => ?_, ?_⟩
              · rw [show (es.map Nd.pl).take (k + 1) = (es.map Nd.pl).take (k) ++ [e.pl] by rw [List.take_add_one, List.getElem?_map, HE.out.1]; rfl]
                exact h4
              · rcases h6 j hj with h | h
                · exact HR.out.2.1 j h
                · have := HR.out.2.2.size; omega
              · exact (HR.out.2.2.trans (HI1.out.2.mono HR.out.2.2.size)).trans (h5.below (by have := HR.out.2.2.size; omega) HR.out.2.1))
        -- END1
    · obtain rfl : k = K := by omega
      rcases HK.out with ⟨rfl, rfl⟩ | ⟨rfl, e, he, hbad⟩
      · clear hrw
        as_aux_lemma =>
          go_wp2
          go_ret2
          have ht := HR.out.1
          rw [List.take_of_length_le (by rw [List.length_map, HX.out.1]; exact Nat.le_refl _)] at ht
          exact ⟨HR.out.2.2, .inr ⟨rfl, p, F, rfl, ht, HR.out.2.1⟩⟩
      · have hkn : k < n := by have := (List.getElem?_eq_some_iff.1 he).1; have := HX.out.1; omega
        obtain ⟨b, off, rfl, c0, c1, c2, c3⟩ := nd_at hrw he
        obtain ⟨u0, u1, u2, u3, _⟩ := cells4 (heap_top wr (.cells #[.string e.key, .slice e.vo e.body.length e.vc, .int .u64 (e.ver : Int), .int .u64 (e.own : Int)] 78))
        rcases bad_why (by have := HX.out.1; omega) hbad with h | ⟨h1, h⟩ | ⟨h1, h2, h⟩ | ⟨h1, h2, h3, h⟩ | ⟨h1, h2, h3, h4, q, d, rfl, hd, h⟩
        · obtain ⟨i1, i1'⟩ := key_none h
          clear h he hbad hrw
          -- BEGIN3
          as_aux_lemma =>
            go_wp2
            go_quiet (fail)
            go_wp2
            go_ret2
            exact ⟨bdrew (HR.out.2.2.alloc HR.out.2.2.size _) _, .inl ⟨rfl, rfl⟩⟩
          -- END3
        · obtain ⟨i1, i1'⟩ := key_facts h1
          have i2 : (64 : Int) < (e.key.size : Int) := by omega
          clear h h1 he hbad hrw
          -- BEGIN4
          as_aux_lemma =>
            go_wp2
            go_quiet (fail)
            go_wp2
            go_ret2
            exact ⟨bdrew (HR.out.2.2.alloc HR.out.2.2.size _) _, .inl ⟨rfl, rfl⟩⟩
          -- END4
        · obtain ⟨i1, i1'⟩ := key_facts h1
          have i2 : decide ((64 : Int) < (e.key.size : Int)) = false := decide_eq_false (by omega)
          have i3 : (3840 : Int) < (e.body.length : Int) := by omega
          clear h h1 h2 he hbad hrw
          -- BEGIN5
          as_aux_lemma =>
            go_wp2
            go_quiet (fail)
            go_wp2
            go_ret2
            exact ⟨bdrew (HR.out.2.2.alloc HR.out.2.2.size _) _, .inl ⟨rfl, rfl⟩⟩
          -- END5
        · obtain ⟨i1, i1'⟩ := key_facts h1
          have i2 : decide ((64 : Int) < (e.key.size : Int)) = false := decide_eq_false (by omega)
          have i3 : decide ((3840 : Int) < (e.body.length : Int)) = false := decide_eq_false (by omega)
          have i4 : ((e.ver : Int) == 0) = true := by simp; omega
          clear h h1 h2 h3 he hbad hrw
          -- BEGIN6
          as_aux_lemma =>
            go_wp2
            go_quiet (fail)
            go_wp2
            go_ret2
            exact ⟨bdrew (HR.out.2.2.alloc HR.out.2.2.size _) _, .inl ⟨rfl, rfl⟩⟩
          -- END6
        · obtain ⟨b', off', hab, d0, _, _, _⟩ := nd_at hrw hd
          cases hab
          have dd0 := alloc_cell (o := (.cells #[.string e.key, .slice e.vo e.body.length e.vc, .int .u64 (e.ver : Int), .int .u64 (e.own : Int)] 78)) d0
          obtain ⟨i1, i1'⟩ := key_facts h1
          have i2 : decide ((64 : Int) < (e.key.size : Int)) = false := decide_eq_false (by omega)
          have i3 : decide ((3840 : Int) < (e.body.length : Int)) = false := decide_eq_false (by omega)
          have i4 : ((e.ver : Int) == 0) = false := by simp; omega
          have j0 : (0 : Int) < ((q + 1 : Nat) : Int) := by omega
          have j1 := IntWalk.i64_in (((q + 1 : Nat) : Int) - 1) (by omega)
          have j2 : (((q + 1 : Nat) : Int) - 1).toNat = q := by omega
          have j3 : ((q + 1 : Nat) : Int) - 1 = (q : Int) := by omega
          have j5 : q < n := by omega
          clear h1 h2 h3 h4 he hbad hrw hd
          -- BEGIN7
          as_aux_lemma =>
            go_wp2
            go_quiet (fail)
            go_wp2
            go_ret2
            exact ⟨bdrew (HR.out.2.2.alloc HR.out.2.2.size _) _, .inl ⟨rfl, rfl⟩⟩
          -- END7
end Go.Proofs.YtackmgmaippajaaGreat.Tr
-- part TreeK
namespace Go.Proofs.YtackmgmaippajaaGreat.Tr
set_option maxRecDepth 100000
open Go Go.RowKit

def Valid (es : List Nd) : Prop := es.length ≤ 256 ∧ ∀ k e, es[k]? = some e → Good es k e
theorem not_valid {es : List Nd} (h : ¬ Valid es) (hl : es.length ≤ 256) : ∃ K, K ≤ es.length ∧ (∀ k, k < K → ∀ e, es[k]? = some e → Good es k e) ∧ ∃ e, es[K]? = some e ∧ ¬ Good es K e := by
  rcases first_bad es es.length with h1 | ⟨k, hk, e, he, hb, h2⟩
  · refine absurd ⟨hl, fun k e he => h1 k ?_ e he⟩ h
    exact (List.getElem?_eq_some_iff.1 he).1
  · exact ⟨k, Nat.le_of_lt hk, h2, e, he, hb⟩
theorem load_false (ao : Option Addr) (n c : Nat) (es : List Nd) (w : World) (hn : es.length = n) (hr : NodesAt w ao es) (hm : n ≤ 1000000) (hv : ¬ Valid es) :
    Calls Tryz.prog 77 #[.slice ao n c] w fun r w' => r = .returned (.tuple #[.pointer none, .bool false]) ∧ Below w.heap.size w w' := by
  by_cases h : 256 < n
  · exact load_long ao n c w h hm
  · obtain ⟨K, hK, hg, hb⟩ := not_valid hv (by omega)
    refine (load_to ao n c K es w false hn hr (by omega) (by omega) hg (.inr ⟨rfl, hb⟩)).mono ?_
    rintro r w' ⟨h1, ⟨_, rfl⟩ | ⟨h2, _⟩⟩
    · exact ⟨rfl, h1⟩
    · cases h2
theorem load_ok (ao : Option Addr) (n c : Nat) (es : List Nd) (w : World) (hn : es.length = n) (hr : NodesAt w ao es) (hv : Valid es) :
    Calls Tryz.prog 77 #[.slice ao n c] w fun r w' => ∃ p F, r = .returned (.tuple #[.pointer (some ⟨p, 0, none⟩), .bool true]) ∧ Below w.heap.size w w' ∧ TreeAt w' p (es.map Nd.pl) F ∧ ∀ k ∈ F, w.heap.size ≤ k := by
  refine (load_to ao n c n es w true hn hr (by rw [← hn]; exact hv.1) (Nat.le_refl _) (fun k _ e he => hv.2 k e he) (.inl ⟨rfl, rfl⟩)).mono ?_
  rintro r w' ⟨h1, ⟨h2, _⟩ | ⟨_, p, F, rfl, h3, h4⟩⟩
  · cases h2
  · exact ⟨p, F, rfl, h1, h3, h4⟩
theorem loads_false (ao : Option Addr) (n c : Nat) (es : List Nd) (w : World) (hn : es.length = n) (hr : NodesAt w ao es) (hm : n ≤ 1000000) (hv : ¬ Valid es) :
    Calls Tryz.prog 101 #[.slice ao n c] w fun r w' => r = .returned (.bool false) ∧ Below w.heap.size w w' := by
  by_cases h : 256 < n
  · refine (loads_long ao n c w h hm).mono ?_
    rintro r w' ⟨rfl, rfl⟩
    exact ⟨rfl, Below.refl _ _⟩
  · obtain ⟨K, hK, hg, hb⟩ := not_valid hv (by omega)
    exact loads_to ao n c K es w false hn hr.1 (by omega) (by omega) hg (.inr ⟨rfl, hb⟩)
theorem loads_ok (ao : Option Addr) (n c : Nat) (es : List Nd) (w : World) (hn : es.length = n) (hr : NodesAt w ao es) (hv : Valid es) :
    Calls Tryz.prog 101 #[.slice ao n c] w fun r w' => r = .returned (.bool true) ∧ Below w.heap.size w w' :=
  loads_to ao n c n es w true hn hr.1 (by rw [← hn]; exact hv.1) (Nat.le_refl _) (fun k _ e he => hv.2 k e he) (.inl ⟨rfl, rfl⟩)
theorem Valid.body {es : List Nd} (h : Valid es) : ∀ x ∈ es.map Nd.pl, x.body.length ≤ 3840 := by
  intro x hx
  obtain ⟨e, he, rfl⟩ := List.mem_map.1 hx
  obtain ⟨i, hi, rfl⟩ := List.getElem_of_mem he
  exact (h.2 i _ (List.getElem?_eq_getElem hi)).2.2.1
def NdIs (w : World) (e : Nd) (cs : List Value) : Prop := cs = e.cells ∧ Bts w e.vo e.body
theorem nd_rd {w : World} {cs : List Value} (h : Rd Tryz.prog w 78 cs) : ∃ e, NdIs w e cs := by
  have hu := Tryz.underlying78
  obtain ⟨c0, c1, c2, c3, rfl⟩ := list4 ((h.struct hu).1.trans (by kernel_rfl))
  obtain ⟨key, e1, h1⟩ := (h.field hu 0 rfl (n := 1) (by kernel_rfl)).string Tryz.underlying9
  obtain ⟨vo, bs, c, e2, h2, h2', _, hb⟩ := (h.field hu 1 rfl (n := 1) (by kernel_rfl)).bytes Tryz.underlying25 Tryz.underlying5 (by kernel_rfl)
  obtain ⟨a, e3, h3⟩ := (h.field hu 2 rfl (n := 1) (by kernel_rfl)).u64 Tryz.underlying28
  obtain ⟨b, e4, h4⟩ := (h.field hu 3 rfl (n := 1) (by kernel_rfl)).u64 Tryz.underlying28
  simp at e1 e2 e3 e4
  subst e1 e2 e3 e4
  exact ⟨⟨key, bs, a, b, vo, c⟩, rfl, hb⟩
theorem nodes_of {w : World} {ao : Option Addr} {l : List Nd} (h : RowOf w ao 4 (NdIs w) l) : NodesAt w ao l := by
  refine ⟨fun hne => ?_, fun e he => ?_⟩
  · have h0 : 0 < l.length := by cases l with | nil => exact absurd rfl hne | cons => simp
    obtain ⟨b, off, rfl, h1⟩ := h h0
    refine ⟨b, off, rfl, fun i v hv => ?_⟩
    have hi := (List.getElem?_eq_some_iff.1 hv).1
    rw [fl_len el_e] at hi
    have hq : i / 4 < l.length := by omega
    obtain ⟨cs, hcs, ⟨rfl, _⟩, hc⟩ := h1 (i / 4) hq
    have hfl := fl_get el_e (List.getElem?_eq_getElem hq) (show i % 4 < 4 by omega)
    rw [show i / 4 * 4 + i % 4 = i by omega, hv] at hfl
    have := hc (i % 4) v hfl.symm
    rwa [show off + i / 4 * 4 + i % 4 = off + i by omega] at this
  · obtain ⟨i, hi, rfl⟩ := List.getElem_of_mem he
    obtain ⟨b, off, rfl, h1⟩ := h (by omega)
    obtain ⟨_, _, ⟨_, hb⟩, _⟩ := h1 i hi
    exact hb
end Go.Proofs.YtackmgmaippajaaGreat.Tr
-- part TreeW
namespace Go.Proofs.YtackmgmaippajaaGreat.Tr
set_option maxRecDepth 100000
open Go Go.RowKit

theorem less_iff : ∀ {a b : List UInt8}, Op.bytesLess a b = decide (Lib.compareBytes a b < 0)
  | [], [] => by simp [Op.bytesLess, Lib.compareBytes]
  | [], _ :: _ => by simp [Op.bytesLess, Lib.compareBytes]
  | _ :: _, [] => by simp [Op.bytesLess, Lib.compareBytes]
  | a :: ar, b :: br => by
    have ih := @less_iff ar br
    unfold Lib.compareBytes
    simp only [UInt8.lt_iff_toNat_lt]
    by_cases h1 : a.toNat < b.toNat
    · simp [Op.bytesLess, UInt8.lt_iff_toNat_lt, h1]
    · rw [if_neg h1]
      by_cases h2 : b.toNat < a.toNat
      · have hne : a ≠ b := fun e => by subst e; omega
        rw [if_pos h2]
        simp [Op.bytesLess, UInt8.lt_iff_toNat_lt, h1, hne]
      · rw [if_neg h2]
        have : a = b := UInt8.toNat_inj.1 (by omega)
        subst this
        simp [Op.bytesLess, ih]
theorem less_keys (a b : ByteArray) : Op.bytesLess a.toList b.toList = decide (cmpB a b < 0) := by
  rw [ba_toList, ba_toList]; exact less_iff
end Go.Proofs.YtackmgmaippajaaGreat.Tr
