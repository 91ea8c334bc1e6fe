/-
  LAYER 6: List of all; SameNodes of alike ones.
-/
import Derived.Test.YtebhbfjnobcckaaTreeG
namespace Go.Proofs.Ytebhbfjnobcckaa
open Go Go.RowKit

theorem pre_empty (k : ByteArray) (w : World) : Calls Try.prog 25 #[.string k, .string ⟨#[]⟩] w fun r w' => r = .returned (.bool true) ∧ w = w' := by
  have h0 : Calls Try.prog 38 #[.string k, .string ⟨#[]⟩] w fun r w' => r = .returned (.bool true) ∧ w = w' := by
    have hz : (0 : Int) ≤ (k.size : Int) := by omega
    have he : (k.extract 0 0).toList = [] := by rw [ba_toList]; simp [ByteArray.extract, ByteArray.copySlice]
    go_enter Try.func38, Try.ntmps38
    go_wp2
    go_ret
    exact ⟨rfl, rfl⟩
  have H0 := Lib.hid h0
  clear h0
  go_enter Try.func25, Try.ntmps25
  go_wp2_with (go_at_call 38; (with_reducible refine H0.out.mono ?_); rintro e w1 ⟨rfl, rfl⟩)
  go_ret
  exact ⟨rfl, rfl⟩
/-- Nodes one behind the other, to be read. -/
def NodesAt (w : World) (ao : Option Addr) (es : List Nd) : Prop := Row w ao (es.flatMap Nd.cells) ∧ ∀ e ∈ es, Bts w e.vo e.body
theorem NodesAt.below {w w' : World} {ao : Option Addr} {es : List Nd} (h : NodesAt w ao es) (hb : Below w.heap.size w w') : NodesAt w' ao es := ⟨h.1.below hb, fun e he => (h.2 e he).below hb⟩
structure ListRel (w wr : World) (ps : List Pl) (k : Nat) (oo : Option Addr) (oc : Nat) (es : List Nd) : Prop where
  map : es.map Nd.pl = ps.take k
  own : Own wr 4 oo k oc (es.flatMap Nd.cells)
  body : ∀ e ∈ es, Bts wr e.vo e.body ∧ (∀ a b, e.vo = some a → oo = some b → a.block ≠ b.block) ∧ ∀ a, e.vo = some a → a.block < wr.heap.size
  new : ∀ a, oo = some a → w.heap.size ≤ a.block
  below : Below w.heap.size w wr
theorem list_end {w wr W w2 : World} {ps : List Pl} {k oc xc : Nat} {oo xo : Option Addr} {es : List Nd} {e : Nd} (h : ListRel w wr ps k oo oc es) (he : ps[k]? = some e.pl) (hb : Below wr.heap.size wr W) (hbody : Own W 1 e.vo e.body.length e.vc (e.body.map cb)) (hnew : ∀ a, e.vo = some a → wr.heap.size ≤ a.block)
    (hx : Own w2 4 xo (k + 1) xc (es.flatMap Nd.cells ++ e.cells)) (hch : Chg (fun j => ∃ a, oo = some a ∧ a.block = j) W w2) (hx2 : ∀ a', xo = some a' → oo = some a' ∨ W.heap.size ≤ a'.block) : ListRel w w2 ps (k + 1) xo xc (es ++ [e]) := by
  have hbw := h.below.size
  have hbs := hb.size
  have hcs := hch.size
  have hol : ∀ a, oo = some a → a.block < wr.heap.size := fun a ha => (h.own.at_ a ha).2.1
  refine ⟨by rw [List.map_append, h.map, List.take_add_one, he]; rfl, by simpa using hx, fun y hy => ?_, fun a ha => ?_, ?_⟩
  · rcases List.mem_append.1 hy with hy | hy
    · obtain ⟨b1, b2, b3⟩ := h.body y hy
      refine ⟨hch.row (b1.below hb) (fun a ha ⟨b, hb', e⟩ => b2 a b ha hb' e.symm), fun a b ha hb' => ?_, fun a ha => by have := b3 a ha; omega⟩
      rcases hx2 b hb' with h4 | h4
      · exact b2 a b ha h4
      · have := b3 a ha; omega
    · obtain rfl : y = e := by simpa using hy
      refine ⟨hch.row hbody.row (fun a ha ⟨b, hb', e⟩ => by have := hnew a ha; have := hol b hb'; omega), fun a b ha hb' => ?_, fun a ha => by have := (hbody.at_ a ha).2.1; omega⟩
      rcases hx2 b hb' with h4 | h4
      · have := hnew a ha; have := hol b h4; omega
      · have := (hbody.at_ a ha).2.1; omega
  · rcases hx2 a ha with h4 | h4
    · exact h.new a h4
    · omega
  · exact (h.below.trans (hb.mono hbw)).trans (hch.below (by omega) (fun j ⟨a, ha, e⟩ => e ▸ h.new a ha))
set_option maxHeartbeats 2000000 in
set_option maxRecDepth 100000 in
theorem list_all (p : Nat) (ps : List Pl) (F : List Nat) (w : World) (h : TreeAt w p ps F) (hl : ps.length ≤ 256) (hbd : ∀ x ∈ ps, x.body.length ≤ 3840) :
    Calls Try.prog 17 #[.pointer (some ⟨p, 0, none⟩), .string ⟨#[]⟩] w fun r w' => ∃ xo xc es, r = .returned (.slice xo ps.length xc) ∧ Below w.heap.size w w' ∧ NodesAt w' xo es ∧ es.map Nd.pl = ps := by
  obtain ⟨lo, n, cap, l, h⟩ := h
  obtain ⟨hn1, hn2⟩ := h.len
  obtain ⟨z0, z2⟩ := cells1 h.heap
  have HI := Lib.hid (And.intro h hbd)
  rw [hn2] at hl ⊢
  have HL := Lib.hid (And.intro hn1 hn2)
  clear h hn1 hn2 hbd
  go_enter Try.func17, Try.ntmps17
  go_wp2
  go_loopg [5, 15] n (fun g v vi wr => ∃ (k : Nat) (oo : Option Addr) (oc : Nat) (es : List Nd), g + k = n ∧ vi = .int .i64 k ∧ v = .slice oo k oc ∧ ListRel w wr ps k oo oc es)
  case atStart => exact ⟨0, none, 0, [], by omega, rfl, rfl, rfl, Own.nil' _ _, by simp, by simp, Below.refl _ _⟩
  case round =>
    obtain ⟨k, oo, oc, es, hg, rfl, rfl, hrel⟩ := hrel
    have HR := Lib.hid hrel
    by_cases hk : k < n
    · have hI2 := HI.out.1.keep (Chg.of_below hrel.below (fun _ => False)) (fun _ _ h => h)
      obtain ⟨e, he⟩ : ∃ e, l[k]? = some e := ⟨_, List.getElem?_eq_getElem (by rw [HL.out.1]; exact hk)⟩
      obtain ⟨b, off, hlo, q0, q1, q2, q3⟩ := nd_at hI2.own.row he
      subst hlo
      have hpe := hI2.get he
      have HA := Lib.hid ((Below.refl _ wr).alloc (Nat.le_refl _) (.cells #[.string e.key, .slice e.vo e.body.length e.vc, .int .u64 (e.ver : Int), .int .u64 (e.own : Int)] 32))
      have HCO := Lib.hid (show Calls Try.prog 31 #[.agg #[.string e.key, .slice e.vo e.body.length e.vc, .int .u64 (e.ver : Int), .int .u64 (e.own : Int)]] (wr.alloc (.cells #[.string e.key, .slice e.vo e.body.length e.vc, .int .u64 (e.ver : Int), .int .u64 (e.own : Int)] 32)) _ from copied_any e _ ((hI2.body e (List.mem_of_getElem? he)).1.below HA.out) (Nat.le_trans (HI.out.2 e.pl (List.mem_of_getElem? hpe)) (by decide)))
      have HPE := Lib.hid hpe
      obtain ⟨t0, t1, t2, t3, _⟩ := cells4 (heap_top wr (.cells #[.string e.key, .slice e.vo e.body.length e.vc, .int .u64 (e.ver : Int), .int .u64 (e.own : Int)] 32))
      clear hI2 hpe hrel he
      go_wp2_with (go_at_call 25; (with_reducible refine (pre_empty _ _).mono ?_); rintro r w1 ⟨rfl, rfl⟩)
      (with_reducible refine HCO.out.mono ?_)
      rintro r w3 ⟨bo, bc, rfl, hb3, ho, hnew⟩
      have hk256 : k + 1 ≤ 256 := by omega
      have hbW := (HA.out.trans (hb3.mono HA.out.size)).alloc (HA.out.trans (hb3.mono HA.out.size)).size (.cells #[.string e.key, .slice bo e.body.length bc, .int .u64 (e.ver : Int), .int .u64 (e.own : Int)] 32)
      have hA3 := (Chg.refl (fun _ => False) w3).alloc (.cells #[.string e.key, .slice bo e.body.length bc, .int .u64 (e.ver : Int), .int .u64 (e.own : Int)] 32)
      have H3 := Lib.hid (And.intro hbW (And.intro (ho.keep hA3 (fun _ _ h => h)) (And.intro (fun a ha => Nat.le_trans HA.out.size (hnew a ha)) (And.intro (HR.out.own.keep (Chg.of_below hbW (fun _ => False)) (fun _ _ h => h)) (Row.alloc w3 #[.string e.key, .slice bo e.body.length bc, .int .u64 (e.ver : Int), .int .u64 (e.own : Int)] 32 (0, 0))))))
      clear hb3 ho hnew hbW hA3
      dsimp only [Nd.val]
      go_wp2_with (at_builtin; refine wpList_append' rfl (.tmp 23) (.tmp 26) el_i rfl rfl rfl H3.out.2.2.2.1 (m := 1) rfl H3.out.2.2.2.2 (el_e.one ⟨e.key, e.body, e.ver, e.own, bo, bc⟩) (by unfold maxLen; omega) (by omega) ?_; intro xo xc w4 hx hch _ hx2; have H4 := Lib.hid (list_end (e := ⟨e.key, e.body, e.ver, e.own, bo, bc⟩) HR.out HPE.out H3.out.1 H3.out.2.1 H3.out.2.2.1 hx hch hx2); clear hx hch hx2)
      go_roundg (gk - 1)
      case measure => omega
      case rel => exact ⟨k + 1, xo, xc, _, by omega, by go_num, rfl, H4.out⟩
    · obtain rfl : k = n := by omega
      clear hrel
      go_wp2
      go_ret
      have hm := HR.out.map
      rw [List.take_of_length_le (by rw [HL.out.2]; exact Nat.le_refl _)] at hm
      exact ⟨oo, oc, es, rfl, HR.out.below, ⟨HR.out.own.row, fun e he => (HR.out.body e he).1⟩, hm⟩
set_option maxHeartbeats 2000000 in
set_option maxRecDepth 100000 in
theorem same_nodes (ao bo : Option Addr) (n c d : Nat) (es fs : List Nd) (w : World) (h1 : NodesAt w ao es) (h2 : NodesAt w bo fs) (hn1 : es.length = n) (hm : es.map Nd.pl = fs.map Nd.pl) (hn : n ≤ 1000000) :
    Calls Try.prog 16 #[.slice ao n c, .slice bo n d] w fun r w' => r = .returned (.bool true) ∧ Below w.heap.size w w' := by
  have hn2 : fs.length = n := by have := congrArg List.length hm; simp at this; omega
  have HH := Lib.hid (And.intro h1 (And.intro h2 (And.intro hn1 (And.intro hn2 hm))))
  clear h1 h2 hn1 hn2 hm
  go_enter Try.func16, Try.ntmps16
  go_wp2
  go_loopg [5] n (fun g v wr => ∃ k : Nat, g + k = n ∧ v = .int .i64 k ∧ Below w.heap.size w wr)
  case atStart => exact ⟨0, by omega, rfl, Below.refl _ _⟩
  case round =>
    obtain ⟨k, hg, rfl, hb⟩ := hrel
    have HB := Lib.hid hb
    by_cases hk : k < n
    · obtain ⟨e, he⟩ : ∃ e, es[k]? = some e := ⟨_, List.getElem?_eq_getElem (by rw [HH.out.2.2.1]; exact hk)⟩
      obtain ⟨f, hf⟩ : ∃ f, fs[k]? = some f := ⟨_, List.getElem?_eq_getElem (by rw [HH.out.2.2.2.1]; exact hk)⟩
      have hef : e.pl = f.pl := by
        have h := congrArg (·[k]?) HH.out.2.2.2.2
        simp only [List.getElem?_map, he, hf, Option.map_some] at h
        exact Option.some.inj h
      have g1 := HH.out.1.below hb
      have g2 := HH.out.2.1.below hb
      obtain ⟨b1, o1, rfl, q0, q1, q2, q3⟩ := nd_at g1.1 he
      obtain ⟨b2, o2, rfl, r0, r1, r2, r3⟩ := nd_at g2.1 hf
      have ba := (g1.2 e (List.mem_of_getElem? he)).drew
      have bb := (g2.2 f (List.mem_of_getElem? hf)).drew
      obtain ⟨xk, xb, xv, xw, xo, xc⟩ := e
      obtain ⟨yk, yb, yv, yw, yo, yc⟩ := f
      simp only [Nd.pl, Pl.mk.injEq] at hef
      obtain ⟨rfl, rfl, rfl, rfl⟩ := hef
      dsimp only at *
      have HSN := Lib.hid (same_node xk xb xb.length (xv : Int) (xw : Int) xo yo xc yc wr.drew ba bb rfl)
      have hki : (k : Int) < (n : Int) := by omega
      have hk0 : (0 : Int) ≤ (k : Int) := by omega
      have q0d : wr.drew.cell? ⟨b1, o1 + k * 4, none⟩ = some (.string xk) := q0
      have q1d : wr.drew.cell? ⟨b1, o1 + k * 4 + 1, none⟩ = some (.slice xo xb.length xc) := q1
      have q2d : wr.drew.cell? ⟨b1, o1 + k * 4 + 2, none⟩ = some (.int .u64 (xv : Int)) := q2
      have q3d : wr.drew.cell? ⟨b1, o1 + k * 4 + 3, none⟩ = some (.int .u64 (xw : Int)) := q3
      have r0d : wr.drew.cell? ⟨b2, o2 + k * 4, none⟩ = some (.string xk) := r0
      have r1d : wr.drew.cell? ⟨b2, o2 + k * 4 + 1, none⟩ = some (.slice yo xb.length yc) := r1
      have r2d : wr.drew.cell? ⟨b2, o2 + k * 4 + 2, none⟩ = some (.int .u64 (xv : Int)) := r2
      have r3d : wr.drew.cell? ⟨b2, o2 + k * 4 + 3, none⟩ = some (.int .u64 (xw : Int)) := r3
      clear hb he hf g1 g2 ba bb q0 q1 q2 q3 r0 r1 r2 r3
      go_wp2
      go_region_with (go_at_call 22; (with_reducible refine HSN.out.mono ?_); rintro r w1 ⟨rfl, hb1⟩; have H1 := Lib.hid (HB.out.drew.trans (hb1.mono HB.out.size)); clear hb1)
      all_goals go_wp2
      all_goals (
        go_roundg (gk - 1)
        case measure => omega
        case rel => exact ⟨k + 1, by omega, by go_num, H1.out⟩)
    · clear hb
      go_wp2
      go_ret
      exact ⟨rfl, HB.out⟩
end Go.Proofs.Ytebhbfjnobcckaa
