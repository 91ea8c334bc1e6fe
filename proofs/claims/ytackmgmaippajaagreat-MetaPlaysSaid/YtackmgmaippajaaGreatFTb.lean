/-
  JOINED BY fam.py out of: TreeG, TreeH, TreeM.
-/
import Derived.Test.YtackmgmaippajaaGreatFT
import Derived.Test.YtackmgmaippajaaGreatFTa
-- part TreeG
namespace Go.Proofs.YtackmgmaippajaaGreat.Tr
set_option maxRecDepth 100000
open Go Go.RowKit

set_option maxHeartbeats 2000000 in
theorem same_node (key : ByteArray) (body : List UInt8) (n : Nat) (ver own : Int) (ao bo : Option Addr) (c d : Nat) (w : World) (ha : Bts w ao body) (hb : Bts w bo body) (hn : body.length = n) :
    Calls Tryz.prog 26 #[.agg #[.string key, .slice ao n c, .int .u64 ver, .int .u64 own], .agg #[.string key, .slice bo n d, .int .u64 ver, .int .u64 own]] w fun r w' => r = .returned (.bool true) ∧ Below w.heap.size w w' := by
  have h1 := heap_new (o := .cells #[.string key, .slice bo n d, .int .u64 ver, .int .u64 own] 78) (heap_top w (.cells #[.string key, .slice ao n c, .int .u64 ver, .int .u64 own] 78))
  have h2 := heap_top (w.alloc (.cells #[.string key, .slice ao n c, .int .u64 ver, .int .u64 own] 78)) (.cells #[.string key, .slice bo n d, .int .u64 ver, .int .u64 own] 78)
  rw [size_alloc] at h2
  have HB := Lib.hid (((Below.refl w.heap.size w).alloc (Nat.le_refl _) (.cells #[.string key, .slice ao n c, .int .u64 ver, .int .u64 own] 78)).alloc (by rw [size_alloc]; omega) (.cells #[.string key, .slice bo n d, .int .u64 ver, .int .u64 own] 78))
  have ka := ha.below HB.out
  have kb := hb.below HB.out
  go_enter Tryz.func26, Tryz.ntmps26
  go_upto_region 1 with fail
  generalize (w.alloc (.cells #[.string key, .slice ao n c, .int .u64 ver, .int .u64 own] 78)).alloc (.cells #[.string key, .slice bo n d, .int .u64 ver, .int .u64 own] 78) = W at *
  obtain ⟨a0, a1, a2, a3, _⟩ := cells4 h1
  obtain ⟨b0, b1, b2, b3, _⟩ := cells4 h2
  have kx := conv_bytes W Tryz.underlying25 Tryz.underlying5 Tryz.underlying9 ao n c body hn ka
  have ky := conv_bytes W Tryz.underlying25 Tryz.underlying5 Tryz.underlying9 bo n d body hn kb
  have ks : ((strOf body).toList == (strOf body).toList) = true := by simp
  clear h1 h2 ka kb ha hb hn
  go_wp2
  go_ret
  exact ⟨rfl, HB.out⟩
theorem put_nil (k : ByteArray) (v u x : Value) (w : World) : Calls Tryz.prog 80 #[.pointer none, .string k, v, u, x] w fun r w' => r = .returned (.tuple #[.int .u64 0, .int .i64 1]) ∧ w = w' := by
  go_enter Tryz.func80, Tryz.ntmps80
  go_wp2
  go_ret2
  exact ⟨rfl, rfl⟩
set_option maxHeartbeats 1000000 in
theorem get_nil (k : ByteArray) (w : World) : Calls Tryz.prog 53 #[.pointer none, .string k] w fun r w' => r = .returned (.tuple #[.agg #[.string ⟨#[]⟩, .slice none 0 0, .int .u64 0, .int .u64 0], .bool false]) ∧ Below w.heap.size w w' := by
  have HA := Lib.hid ((Below.refl _ w).alloc (Nat.le_refl _) (.cells #[.string ⟨#[]⟩, .slice none 0 0, .int .u64 0, .int .u64 0] 78))
  have hT := heap_top w (.cells #[.string ⟨#[]⟩, .slice none 0 0, .int .u64 0, .int .u64 0] 78)
  obtain ⟨c0, c1, c2, c3, _⟩ := cells4 hT
  clear hT
  go_enter Tryz.func53, Tryz.ntmps53
  go_wp2
  generalize (w.alloc (.cells #[.string ⟨#[]⟩, .slice none 0 0, .int .u64 0, .int .u64 0] 78)) = W5 at *
  refine bodyPost_ret (v := .tuple #[.agg #[.string ⟨#[]⟩, .slice none 0 0, .int .u64 0, .int .u64 0], .bool false]) (w := W5) ?_ rfl ?_
  · simp [results, Tryz.results53, go_sem, c0, c1, c2, c3]
  · exact ⟨rfl, HA.out⟩
theorem drop_nil (u : Int) (w : World) : Calls Tryz.prog 85 #[.pointer none, .int .u64 u] w fun r w' => r = .returned (.tuple #[]) ∧ Below w.heap.size w w' := by
  go_enter Tryz.func85, Tryz.ntmps85
  go_wp2
  go_end0
  exact ⟨rfl, (Below.refl _ w).alloc (Nat.le_refl _) _⟩
theorem delete_nil (k : ByteArray) (u : Value) (w : World) : Calls Tryz.prog 81 #[.pointer none, .string k, u] w fun r w' => r = .returned (.int .i64 1) ∧ w = w' := by
  go_enter Tryz.func81, Tryz.ntmps81
  go_wp2
  go_ret
  exact ⟨rfl, rfl⟩
theorem list_nil (k : ByteArray) (w : World) : Calls Tryz.prog 45 #[.pointer none, .string k] w fun r w' => r = .returned (.slice none 0 0) ∧ w = w' := by
  go_enter Tryz.func45, Tryz.ntmps45
  go_wp2
  go_ret
  exact ⟨rfl, rfl⟩
end Go.Proofs.YtackmgmaippajaaGreat.Tr
-- part TreeH
namespace Go.Proofs.YtackmgmaippajaaGreat.Tr
set_option maxRecDepth 100000
open Go Go.RowKit

theorem pre_empty (k : ByteArray) (w : World) : Calls Tryz.prog 75 #[.string k, .string ⟨#[]⟩] w fun r w' => r = .returned (.bool true) ∧ w = w' := by
  have h0 : Calls Tryz.prog 109 #[.string k, .string ⟨#[]⟩] w fun r w' => r = .returned (.bool true) ∧ w = w' := by
    have hz : (0 : Int) ≤ (k.size : Int) := by omega
    have he : (k.extract 0 0).toList = [] := by rw [ba_toList]; simp [ByteArray.extract, ByteArray.copySlice]
    go_enter Tryz.func109, Tryz.ntmps109
    go_wp2
    go_ret
    exact ⟨rfl, rfl⟩
  have H0 := Lib.hid h0
  clear h0
  go_enter Tryz.func75, Tryz.ntmps75
  go_wp2_with (go_at_call 109; (with_reducible refine H0.out.mono ?_); rintro e w1 ⟨rfl, rfl⟩)
  go_ret
  exact ⟨rfl, rfl⟩
/-- Nodes one behind the other, to be read. -/
def NodesAt (w : World) (ao : Option Addr) (es : List Nd) : Prop := Row w ao (es.flatMap Nd.cells) ∧ ∀ e ∈ es, Bts w e.vo e.body
theorem NodesAt.below {w w' : World} {ao : Option Addr} {es : List Nd} (h : NodesAt w ao es) (hb : Below w.heap.size w w') : NodesAt w' ao es := ⟨h.1.below hb, fun e he => (h.2 e he).below hb⟩
structure ListRel (w wr : World) (ps : List Pl) (k : Nat) (oo : Option Addr) (oc : Nat) (es : List Nd) : Prop where
  map : es.map Nd.pl = ps.take k
  own : Own wr 4 oo k oc (es.flatMap Nd.cells)
  body : ∀ e ∈ es, Bts wr e.vo e.body ∧ (∀ a b, e.vo = some a → oo = some b → a.block ≠ b.block) ∧ ∀ a, e.vo = some a → a.block < wr.heap.size
  new : ∀ a, oo = some a → w.heap.size ≤ a.block
  below : Below w.heap.size w wr
theorem list_end {w wr W w2 : World} {ps : List Pl} {k oc xc : Nat} {oo xo : Option Addr} {es : List Nd} {e : Nd} (h : ListRel w wr ps k oo oc es) (he : ps[k]? = some e.pl) (hb : Below wr.heap.size wr W) (hbody : Own W 1 e.vo e.body.length e.vc (e.body.map cb)) (hnew : ∀ a, e.vo = some a → wr.heap.size ≤ a.block)
    (hx : Own w2 4 xo (k + 1) xc (es.flatMap Nd.cells ++ e.cells)) (hch : Chg (fun j => ∃ a, oo = some a ∧ a.block = j) W w2) (hx2 : ∀ a', xo = some a' → oo = some a' ∨ W.heap.size ≤ a'.block) : ListRel w w2 ps (k + 1) xo xc (es ++ [e]) := by
  have hbw := h.below.size
  have hbs := hb.size
  have hcs := hch.size
  have hol : ∀ a, oo = some a → a.block < wr.heap.size := fun a ha => (h.own.at_ a ha).2.1
  refine ⟨by rw [List.map_append, h.map, List.take_add_one, he]; rfl, by simpa using hx, fun y hy => ?_, fun a ha => ?_, ?_⟩
  · rcases List.mem_append.1 hy with hy | hy
    · obtain ⟨b1, b2, b3⟩ := h.body y hy
      refine ⟨hch.row (b1.below hb) (fun a ha ⟨b, hb', e⟩ => b2 a b ha hb' e.symm), fun a b ha hb' => ?_, fun a ha => by have := b3 a ha; omega⟩
      rcases hx2 b hb' with h4 | h4
      · exact b2 a b ha h4
      · have := b3 a ha; omega
    · obtain rfl : y = e := by simpa using hy
      refine ⟨hch.row hbody.row (fun a ha ⟨b, hb', e⟩ => by have := hnew a ha; have := hol b hb'; omega), fun a b ha hb' => ?_, fun a ha => by have := (hbody.at_ a ha).2.1; omega⟩
      rcases hx2 b hb' with h4 | h4
      · have := hnew a ha; have := hol b h4; omega
      · have := (hbody.at_ a ha).2.1; omega
  · rcases hx2 a ha with h4 | h4
    · exact h.new a h4
    · omega
  · exact (h.below.trans (hb.mono hbw)).trans (hch.below (by omega) (fun j ⟨a, ha, e⟩ => e ▸ h.new a ha))
set_option maxHeartbeats 2000000 in
set_option maxRecDepth 100000 in
theorem list_all (p : Nat) (ps : List Pl) (F : List Nat) (w : World) (h : TreeAt w p ps F) (hl : ps.length ≤ 256) (hbd : ∀ x ∈ ps, x.body.length ≤ 3840) :
    Calls Tryz.prog 45 #[.pointer (some ⟨p, 0, none⟩), .string ⟨#[]⟩] w fun r w' => ∃ xo xc es, r = .returned (.slice xo ps.length xc) ∧ Below w.heap.size w w' ∧ NodesAt w' xo es ∧ es.map Nd.pl = ps := by
  obtain ⟨lo, n, cap, l, h⟩ := h
  obtain ⟨hn1, hn2⟩ := h.len
  obtain ⟨z0, z2⟩ := cells1 h.heap
  have HI := Lib.hid (And.intro h hbd)
  rw [hn2] at hl ⊢
  have HL := Lib.hid (And.intro hn1 hn2)
  clear h hn1 hn2 hbd
  go_enter Tryz.func45, Tryz.ntmps45
  go_wp2
  go_loopg [5, 15] n (fun g v vi wr => ∃ (k : Nat) (oo : Option Addr) (oc : Nat) (es : List Nd), g + k = n ∧ vi = .int .i64 k ∧ v = .slice oo k oc ∧ ListRel w wr ps k oo oc es)
  case atStart => exact ⟨0, none, 0, [], by omega, rfl, rfl, rfl, Own.nil' _ _, by simp, by simp, Below.refl _ _⟩
  case round =>
    obtain ⟨k, oo, oc, es, hg, rfl, rfl, hrel⟩ := hrel
    have HR := Lib.hid hrel
    by_cases hk : k < n
    · have hI2 := HI.out.1.keep (Chg.of_below hrel.below (fun _ => False)) (fun _ _ h => h)
      obtain ⟨e, he⟩ : ∃ e, l[k]? = some e := ⟨_, List.getElem?_eq_getElem (by rw [HL.out.1]; exact hk)⟩
      obtain ⟨b, off, hlo, q0, q1, q2, q3⟩ := nd_at hI2.own.row he
      subst hlo
      have hpe := hI2.get he
      have HA := Lib.hid ((Below.refl _ wr).alloc (Nat.le_refl _) (.cells #[.string e.key, .slice e.vo e.body.length e.vc, .int .u64 (e.ver : Int), .int .u64 (e.own : Int)] 78))
      have HCO := Lib.hid (show Calls Tryz.prog 76 #[.agg #[.string e.key, .slice e.vo e.body.length e.vc, .int .u64 (e.ver : Int), .int .u64 (e.own : Int)]] (wr.alloc (.cells #[.string e.key, .slice e.vo e.body.length e.vc, .int .u64 (e.ver : Int), .int .u64 (e.own : Int)] 78)) _ from copied_any e _ ((hI2.body e (List.mem_of_getElem? he)).1.below HA.out) (Nat.le_trans (HI.out.2 e.pl (List.mem_of_getElem? hpe)) (by decide)))
      have HPE := Lib.hid hpe
      obtain ⟨t0, t1, t2, t3, _⟩ := cells4 (heap_top wr (.cells #[.string e.key, .slice e.vo e.body.length e.vc, .int .u64 (e.ver : Int), .int .u64 (e.own : Int)] 78))
      clear hI2 hpe hrel he
      go_wp2_with (go_at_call 75; (with_reducible refine (pre_empty _ _).mono ?_); rintro r w1 ⟨rfl, rfl⟩)
      (with_reducible refine HCO.out.mono ?_)
      rintro r w3 ⟨bo, bc, rfl, hb3, ho, hnew⟩
      have hk256 : k + 1 ≤ 256 := by omega
      have hbW := (HA.out.trans (hb3.mono HA.out.size)).alloc (HA.out.trans (hb3.mono HA.out.size)).size (.cells #[.string e.key, .slice bo e.body.length bc, .int .u64 (e.ver : Int), .int .u64 (e.own : Int)] 78)
      have hA3 := (Chg.refl (fun _ => False) w3).alloc (.cells #[.string e.key, .slice bo e.body.length bc, .int .u64 (e.ver : Int), .int .u64 (e.own : Int)] 78)
      have H3 := Lib.hid (And.intro hbW (And.intro (ho.keep hA3 (fun _ _ h => h)) (And.intro (fun a ha => Nat.le_trans HA.out.size (hnew a ha)) (And.intro (HR.out.own.keep (Chg.of_below hbW (fun _ => False)) (fun _ _ h => h)) (Row.alloc w3 #[.string e.key, .slice bo e.body.length bc, .int .u64 (e.ver : Int), .int .u64 (e.own : Int)] 78 (0, 0))))))
      clear hb3 ho hnew hbW hA3
      dsimp only [Nd.val]
      go_wp2_with (at_builtin; refine wpList_append' rfl (.tmp 23) (.tmp 26) el_i rfl rfl rfl H3.out.2.2.2.1 (m := 1) rfl H3.out.2.2.2.2 (el_e.one ⟨e.key, e.body, e.ver, e.own, bo, bc⟩) (by unfold maxLen; omega) (by omega) ?_; intro xo xc w4 hx hch _ hx2; have H4 := Lib.hid (list_end (e := ⟨e.key, e.body, e.ver, e.own, bo, bc⟩) HR.out HPE.out H3.out.1 H3.out.2.1 H3.out.2.2.1 hx hch hx2); clear hx hch hx2)
      go_roundg (gk - 1)
      case measure => omega
      case rel => exact ⟨k + 1, xo, xc, _, by omega, by go_num, rfl, H4.out⟩
    · obtain rfl : k = n := by omega
      clear hrel
      go_wp2
      go_ret
      have hm := HR.out.map
      rw [List.take_of_length_le (by rw [HL.out.2]; exact Nat.le_refl _)] at hm
      exact ⟨oo, oc, es, rfl, HR.out.below, ⟨HR.out.own.row, fun e he => (HR.out.body e he).1⟩, hm⟩
set_option maxHeartbeats 2000000 in
set_option maxRecDepth 100000 in
theorem same_nodes (ao bo : Option Addr) (n c d : Nat) (es fs : List Nd) (w : World) (h1 : NodesAt w ao es) (h2 : NodesAt w bo fs) (hn1 : es.length = n) (hm : es.map Nd.pl = fs.map Nd.pl) (hn : n ≤ 1000000) :
    Calls Tryz.prog 19 #[.slice ao n c, .slice bo n d] w fun r w' => r = .returned (.bool true) ∧ Below w.heap.size w w' := by
  have hn2 : fs.length = n := by have := congrArg List.length hm; simp at this; omega
  have HH := Lib.hid (And.intro h1 (And.intro h2 (And.intro hn1 (And.intro hn2 hm))))
  clear h1 h2 hn1 hn2 hm
  go_enter Tryz.func19, Tryz.ntmps19
  go_wp2
  go_loopg [5] n (fun g v wr => ∃ k : Nat, g + k = n ∧ v = .int .i64 k ∧ Below w.heap.size w wr)
  case atStart => exact ⟨0, by omega, rfl, Below.refl _ _⟩
  case round =>
    obtain ⟨k, hg, rfl, hb⟩ := hrel
    have HB := Lib.hid hb
    by_cases hk : k < n
    · obtain ⟨e, he⟩ : ∃ e, es[k]? = some e := ⟨_, List.getElem?_eq_getElem (by rw [HH.out.2.2.1]; exact hk)⟩
      obtain ⟨f, hf⟩ : ∃ f, fs[k]? = some f := ⟨_, List.getElem?_eq_getElem (by rw [HH.out.2.2.2.1]; exact hk)⟩
      have hef : e.pl = f.pl := by
        have h := congrArg (·[k]?) HH.out.2.2.2.2
        simp only [List.getElem?_map, he, hf, Option.map_some] at h
        exact Option.some.inj h
      have g1 := HH.out.1.below hb
      have g2 := HH.out.2.1.below hb
      obtain ⟨b1, o1, rfl, q0, q1, q2, q3⟩ := nd_at g1.1 he
      obtain ⟨b2, o2, rfl, r0, r1, r2, r3⟩ := nd_at g2.1 hf
      have ba := (g1.2 e (List.mem_of_getElem? he)).drew
      have bb := (g2.2 f (List.mem_of_getElem? hf)).drew
      obtain ⟨xk, xb, xv, xw, xo, xc⟩ := e
      obtain ⟨yk, yb, yv, yw, yo, yc⟩ := f
      simp only [Nd.pl, Pl.mk.injEq] at hef
      obtain ⟨rfl, rfl, rfl, rfl⟩ := hef
      dsimp only at *
      have HSN := Lib.hid (same_node xk xb xb.length (xv : Int) (xw : Int) xo yo xc yc wr.drew ba bb rfl)
      have hki : (k : Int) < (n : Int) := by omega
      have hk0 : (0 : Int) ≤ (k : Int) := by omega
      have q0d : wr.drew.cell? ⟨b1, o1 + k * 4, none⟩ = some (.string xk) := q0
      have q1d : wr.drew.cell? ⟨b1, o1 + k * 4 + 1, none⟩ = some (.slice xo xb.length xc) := q1
      have q2d : wr.drew.cell? ⟨b1, o1 + k * 4 + 2, none⟩ = some (.int .u64 (xv : Int)) := q2
      have q3d : wr.drew.cell? ⟨b1, o1 + k * 4 + 3, none⟩ = some (.int .u64 (xw : Int)) := q3
      have r0d : wr.drew.cell? ⟨b2, o2 + k * 4, none⟩ = some (.string xk) := r0
      have r1d : wr.drew.cell? ⟨b2, o2 + k * 4 + 1, none⟩ = some (.slice yo xb.length yc) := r1
      have r2d : wr.drew.cell? ⟨b2, o2 + k * 4 + 2, none⟩ = some (.int .u64 (xv : Int)) := r2
      have r3d : wr.drew.cell? ⟨b2, o2 + k * 4 + 3, none⟩ = some (.int .u64 (xw : Int)) := r3
      clear hb he hf g1 g2 ba bb q0 q1 q2 q3 r0 r1 r2 r3
      go_wp2
      go_region_with (go_at_call 26; (with_reducible refine HSN.out.mono ?_); rintro r w1 ⟨rfl, hb1⟩; have H1 := Lib.hid (HB.out.drew.trans (hb1.mono HB.out.size)); clear hb1)
      all_goals go_wp2
      all_goals (
        go_roundg (gk - 1)
        case measure => omega
        case rel => exact ⟨k + 1, by omega, by go_num, H1.out⟩)
    · clear hb
      go_wp2
      go_ret
      exact ⟨rfl, HB.out⟩
end Go.Proofs.YtackmgmaippajaaGreat.Tr
-- part TreeM
namespace Go.Proofs.YtackmgmaippajaaGreat.Tr
set_option maxRecDepth 100000
open Go Go.RowKit

/-- Does a key begin so? -/
def preB (k p : ByteArray) : Bool := decide (p.size ≤ k.size) && ((k.extract 0 p.size).toList == p.toList)
theorem has_prefix (k p : ByteArray) (w : World) : Calls Tryz.prog 75 #[.string k, .string p] w fun r w' => r = .returned (.bool (preB k p)) ∧ w = w' := by
  have h0 : Calls Tryz.prog 109 #[.string k, .string p] w fun r w' => r = .returned (.bool (preB k p)) ∧ w = w' := by
    by_cases h : p.size ≤ k.size
    · have hz : (p.size : Int) ≤ (k.size : Int) := by omega
      have hz0 : (0 : Int) ≤ (p.size : Int) := by omega
      have hp : preB k p = ((k.extract 0 p.size).toList == p.toList) := by unfold preB; rw [decide_eq_true h, Bool.true_and]
      rw [hp]
      clear hp
      go_enter Tryz.func109, Tryz.ntmps109
      go_wp2
      go_ret
      exact ⟨rfl, rfl⟩
    · have hz : ¬ (p.size : Int) ≤ (k.size : Int) := by omega
      have hp : preB k p = false := by unfold preB; rw [decide_eq_false h, Bool.false_and]
      rw [hp]
      clear hp h
      go_enter Tryz.func109, Tryz.ntmps109
      go_wp2
      go_ret
      exact ⟨rfl, rfl⟩
  have H0 := Lib.hid h0
  clear h0
  go_enter Tryz.func75, Tryz.ntmps75
  go_wp2_with (go_at_call 109; (with_reducible refine H0.out.mono ?_); rintro e w1 ⟨rfl, rfl⟩)
  go_ret
  exact ⟨rfl, rfl⟩
def listP (ps : List Pl) (pre : ByteArray) : List Pl := ps.filter (fun x => preB x.key pre)
theorem preB_empty (k : ByteArray) : preB k ⟨#[]⟩ = true := by
  have he : (k.extract 0 0).toList = [] := by rw [ba_toList]; simp [ByteArray.extract, ByteArray.copySlice]
  have hs : (⟨#[]⟩ : ByteArray).size = 0 := rfl
  unfold preB
  rw [hs, he]
  simp
theorem listP_empty (ps : List Pl) : listP ps ⟨#[]⟩ = ps := List.filter_eq_self.2 (fun x _ => preB_empty x.key)
theorem filt_split {ps : List Pl} {k : Nat} {x : Pl} (hx : ps[k]? = some x) : ps = ps.take k ++ x :: ps.drop (k + 1) := by
  obtain ⟨hk, rfl⟩ := List.getElem?_eq_some_iff.1 hx
  rw [← List.drop_eq_getElem_cons hk, List.take_append_drop]
theorem filt_at {ps : List Pl} {f : Pl → Bool} {k : Nat} {x : Pl} (hx : ps[k]? = some x) (hf : f x = true) : (ps.filter f)[((ps.take k).filter f).length]? = some x ∧ ((ps.take (k + 1)).filter f).length = ((ps.take k).filter f).length + 1 := by
  constructor
  · conv => lhs; rw [filt_split hx]
    rw [List.filter_append, List.filter_cons_of_pos hf, List.take_append_of_le_length (by rw [List.length_take]; have := (List.getElem?_eq_some_iff.1 hx).1; omega), List.take_take, Nat.min_self]
    simp
  · rw [List.take_add_one, hx, List.filter_append, List.length_append]
    simp [hf]
theorem filt_no {ps : List Pl} {f : Pl → Bool} {k : Nat} {x : Pl} (hx : ps[k]? = some x) (hf : f x = false) : ((ps.take (k + 1)).filter f).length = ((ps.take k).filter f).length := by
  rw [List.take_add_one, hx, List.filter_append, List.length_append]
  simp [hf]
theorem ListRel.stays {w wr W : World} {ps : List Pl} {k oc : Nat} {oo : Option Addr} {es : List Nd} (h : ListRel w wr ps k oo oc es) (hb : Below wr.heap.size wr W) : ListRel w W ps k oo oc es :=
  ⟨h.map, h.own.keep (Chg.of_below hb (fun _ => False)) (fun _ _ h => h), fun e he => ⟨(h.body e he).1.below hb, (h.body e he).2.1, fun a ha => Nat.lt_of_lt_of_le ((h.body e he).2.2 a ha) hb.size⟩, h.new, h.below.trans (hb.mono h.below.size)⟩
set_option maxHeartbeats 2000000 in
set_option maxRecDepth 100000 in
theorem list_pre (p : Nat) (pre : ByteArray) (ps : List Pl) (F : List Nat) (w : World) (h : TreeAt w p ps F) (hl : ps.length ≤ 256) (hbd : ∀ x ∈ ps, x.body.length ≤ 3840) :
    Calls Tryz.prog 45 #[.pointer (some ⟨p, 0, none⟩), .string pre] w fun r w' => ∃ xo xc es, r = .returned (.slice xo (listP ps pre).length xc) ∧ Below w.heap.size w w' ∧ NodesAt w' xo es ∧ es.map Nd.pl = listP ps pre ∧ (∀ a, xo = some a → w.heap.size ≤ a.block) ∧ ∀ e ∈ es, ∀ a, e.vo = some a → w.heap.size ≤ a.block := by
  obtain ⟨lo, n, cap, l, h⟩ := h
  obtain ⟨hn1, hn2⟩ := h.len
  obtain ⟨z0, z2⟩ := cells1 h.heap
  have HI := Lib.hid (And.intro h hbd)
  rw [hn2] at hl
  have HL := Lib.hid (And.intro hn1 hn2)
  clear h hn1 hn2 hbd
  go_enter Tryz.func45, Tryz.ntmps45
  go_wp2
  go_loopg [5, 15] n (fun g v vi wr => ∃ (k m : Nat) (oo : Option Addr) (oc : Nat) (es : List Nd), g + k = n ∧ vi = .int .i64 k ∧ v = .slice oo m oc ∧ ListRel w wr (listP ps pre) m oo oc es ∧ m = (listP (ps.take k) pre).length ∧ ∀ e ∈ es, ∀ a, e.vo = some a → w.heap.size ≤ a.block)
  case atStart => exact ⟨0, 0, none, 0, [], by omega, rfl, rfl, ⟨rfl, Own.nil' _ _, by simp, by simp, Below.refl _ _⟩, rfl, by simp⟩
  case round =>
    obtain ⟨k, m, oo, oc, es, hg, rfl, rfl, hrel, hmk, hnw⟩ := hrel
    have HNW := Lib.hid hnw
    clear hnw
    have HR := Lib.hid hrel
    by_cases hk : k < n
    · have hI2 := HI.out.1.keep (Chg.of_below hrel.below (fun _ => False)) (fun _ _ h => h)
      obtain ⟨e, he⟩ : ∃ e, l[k]? = some e := ⟨_, List.getElem?_eq_getElem (by rw [HL.out.1]; exact hk)⟩
      obtain ⟨b, off, hlo, q0, q1, q2, q3⟩ := nd_at hI2.own.row he
      subst hlo
      have hpe := hI2.get he
      have HA := Lib.hid ((Below.refl _ wr).alloc (Nat.le_refl _) (.cells #[.string e.key, .slice e.vo e.body.length e.vc, .int .u64 (e.ver : Int), .int .u64 (e.own : Int)] 78))
      have HCO := Lib.hid (show Calls Tryz.prog 76 #[.agg #[.string e.key, .slice e.vo e.body.length e.vc, .int .u64 (e.ver : Int), .int .u64 (e.own : Int)]] (wr.alloc (.cells #[.string e.key, .slice e.vo e.body.length e.vc, .int .u64 (e.ver : Int), .int .u64 (e.own : Int)] 78)) _ from copied_any e _ ((hI2.body e (List.mem_of_getElem? he)).1.below HA.out) (Nat.le_trans (HI.out.2 e.pl (List.mem_of_getElem? hpe)) (by decide)))
      have HPE := Lib.hid hpe
      obtain ⟨t0, t1, t2, t3, _⟩ := cells4 (heap_top wr (.cells #[.string e.key, .slice e.vo e.body.length e.vc, .int .u64 (e.ver : Int), .int .u64 (e.own : Int)] 78))
      clear hI2 hpe hrel he
      cases hpp : preB e.key pre with
      | true =>
        have HPF := Lib.hid (fun w => (hpp ▸ has_prefix e.key pre w : Calls Tryz.prog 75 #[.string e.key, .string pre] w fun r w' => r = .returned (.bool true) ∧ w = w'))
        have hft := filt_at (f := fun x => preB x.key pre) HPE.out hpp
        have HMK := Lib.hid (show (listP ps pre)[m]? = some e.pl ∧ (listP (ps.take (k + 1)) pre).length = m + 1 by rw [hmk]; exact hft)
        have hm256 : m < 256 := by
          have h1 := (List.getElem?_eq_some_iff.1 HMK.out.1).1
          have h2 : (listP ps pre).length ≤ ps.length := List.length_filter_le ..
          have h3 := HL.out.2
          omega
        clear hft hmk hpp
        go_wp2_with (go_at_call 75; (with_reducible refine (HPF.out _).mono ?_); rintro r w1 ⟨rfl, rfl⟩)
        (with_reducible refine HCO.out.mono ?_)
        rintro r w3 ⟨bo, bc, rfl, hb3, ho, hnew⟩
        have hk256 : m + 1 ≤ 256 := by omega
        have hbW := (HA.out.trans (hb3.mono HA.out.size)).alloc (HA.out.trans (hb3.mono HA.out.size)).size (.cells #[.string e.key, .slice bo e.body.length bc, .int .u64 (e.ver : Int), .int .u64 (e.own : Int)] 78)
        have hA3 := (Chg.refl (fun _ => False) w3).alloc (.cells #[.string e.key, .slice bo e.body.length bc, .int .u64 (e.ver : Int), .int .u64 (e.own : Int)] 78)
        have H3 := Lib.hid (And.intro hbW (And.intro (ho.keep hA3 (fun _ _ h => h)) (And.intro (fun a ha => Nat.le_trans HA.out.size (hnew a ha)) (And.intro (HR.out.own.keep (Chg.of_below hbW (fun _ => False)) (fun _ _ h => h)) (Row.alloc w3 #[.string e.key, .slice bo e.body.length bc, .int .u64 (e.ver : Int), .int .u64 (e.own : Int)] 78 (0, 0))))))
        clear hb3 ho hnew hbW hA3
        dsimp only [Nd.val]
        go_wp2_with (at_builtin; refine wpList_append' rfl (.tmp 23) (.tmp 26) el_i rfl rfl rfl H3.out.2.2.2.1 (m := 1) rfl H3.out.2.2.2.2 (el_e.one ⟨e.key, e.body, e.ver, e.own, bo, bc⟩) (by unfold maxLen; omega) (by omega) ?_; intro xo xc w4 hx hch _ hx2; have H4 := Lib.hid (list_end (e := ⟨e.key, e.body, e.ver, e.own, bo, bc⟩) HR.out HMK.out.1 H3.out.1 H3.out.2.1 H3.out.2.2.1 hx hch hx2); clear hx hch hx2)
        go_roundg (gk - 1)
        case measure => omega
        case rel => exact ⟨k + 1, m + 1, xo, xc, _, by omega, by go_num, rfl, H4.out, by rw [HMK.out.2], fun y hy a ha => by
            rcases List.mem_append.1 hy with hy | hy
            · exact HNW.out y hy a ha
            · rw [List.mem_singleton] at hy; subst hy; exact Nat.le_trans HR.out.below.size (H3.out.2.2.1 a ha)⟩
      | false =>
        have HPF := Lib.hid (fun w => (hpp ▸ has_prefix e.key pre w : Calls Tryz.prog 75 #[.string e.key, .string pre] w fun r w' => r = .returned (.bool false) ∧ w = w'))
        have hft := filt_no (f := fun x => preB x.key pre) HPE.out hpp
        have HMK := Lib.hid (show m = (listP (ps.take (k + 1)) pre).length by rw [hmk]; exact hft.symm)
        clear hft hmk hpp
        go_wp2_with (go_at_call 75; (with_reducible refine (HPF.out _).mono ?_); rintro r w1 ⟨rfl, rfl⟩)
        go_roundg (gk - 1)
        case measure => omega
        case rel => exact ⟨k + 1, m, oo, oc, es, by omega, by go_num, rfl, HR.out.stays HA.out, HMK.out, HNW.out⟩
    · obtain rfl : k = n := by omega
      clear hrel
      go_wp2
      go_ret
      have hm := HR.out.map
      rw [List.take_of_length_le (by rw [HL.out.2]; exact Nat.le_refl _)] at hmk
      rw [hmk, List.take_of_length_le (Nat.le_refl _)] at hm
      exact ⟨oo, oc, es, by rw [hmk]; rfl, HR.out.below, ⟨HR.out.own.row, fun e he => (HR.out.body e he).1⟩, hm, HR.out.new, HNW.out⟩
theorem list_new (p : Nat) (ps : List Pl) (F : List Nat) (w : World) (h : TreeAt w p ps F) (hf : Fine ps) :
    Calls Tryz.prog 45 #[.pointer (some ⟨p, 0, none⟩), .string ⟨#[]⟩] w fun r w' => ∃ xo xc es, r = .returned (.slice xo ps.length xc) ∧ Below w.heap.size w w' ∧ NodesAt w' xo es ∧ es.map Nd.pl = ps ∧ (∀ a, xo = some a → w.heap.size ≤ a.block) ∧ ∀ e ∈ es, ∀ a, e.vo = some a → w.heap.size ≤ a.block := by
  refine (list_pre p ⟨#[]⟩ ps F w h hf.len hf.body).mono ?_
  rintro r w' ⟨xo, xc, es, rfl, h1, h2, h3, h4⟩
  rw [listP_empty] at h3 ⊢
  exact ⟨xo, xc, es, rfl, h1, h2, h3, h4⟩
/-- Nodes that lie beside what was written. -/
theorem NodesAt.keep {w w' : World} {ao : Option Addr} {es : List Nd} (h : NodesAt w ao es) {S : Nat → Prop} (hc : Chg S w w') (ha : ∀ a, ao = some a → ¬ S a.block) (hb : ∀ e ∈ es, ∀ a, e.vo = some a → ¬ S a.block) : NodesAt w' ao es :=
  ⟨hc.row h.1 ha, fun e he => hc.row (h.2 e he) (hb e he)⟩
end Go.Proofs.YtackmgmaippajaaGreat.Tr
