/-
  LAYER 6: Put of a key that is there; Put that is refused.
-/
import Derived.Test.YtebhbfjnobcckaaTreeC
namespace Go.Proofs.Ytebhbfjnobcckaa
open Go Go.RowKit

theorem fl_set4 {E : Type} {cells : E → List Value} (h : Elem cells 4) (es : List E) (i : Nat) (e : E) (v0 v1 v2 v3 : Value) (hc : cells e = [v0, v1, v2, v3]) (hi : i < es.length) : ((((es.flatMap cells).set (i * 4) v0).set (i * 4 + 1) v1).set (i * 4 + 2) v2).set (i * 4 + 3) v3 = (es.set i e).flatMap cells := by
  induction es generalizing i with
  | nil => simp at hi
  | cons x es ih =>
    have hx := h.len x
    obtain ⟨a0, a1, a2, a3, hx⟩ : ∃ a0 a1 a2 a3, cells x = [a0, a1, a2, a3] := by
      match hl : cells x, hx with
      | [a0, a1, a2, a3], _ => exact ⟨a0, a1, a2, a3, rfl⟩
    cases i with
    | zero => simp [hx, hc]
    | succ i =>
      simp at hi
      rw [List.set_cons_succ, List.flatMap_cons, List.flatMap_cons, ← ih i hi, hx]
      rw [show (i + 1) * 4 = i * 4 + 1 + 1 + 1 + 1 by omega]
      simp
theorem key_facts {key : ByteArray} (hk0 : key.size ≠ 0) : key.toList.isEmpty = false ∧ ¬ key.toList = [] := by
  have hke : key.toList.isEmpty = false := by
    rw [ba_toList]
    cases hq : key.data.toList with
    | nil => exact absurd (by show key.data.size = 0; rw [← Array.length_toList, hq]; rfl) hk0
    | cons a b => rfl
  exact ⟨hke, fun h0 => by rw [h0] at hke; cases hke⟩
/-! ### refused -/
set_option maxHeartbeats 1000000 in
theorem put_exists (p : Nat) (ps : List Pl) (F : List Nat) (key : ByteArray) (x : Pl) (vo : Option Addr) (m c : Nat) (own : Int) (w : World) (h : TreeAt w p ps F) (hf : Fine ps) (hk0 : key.size ≠ 0) (hk : key.size ≤ 64) (hm4 : m ≤ 3840) (hl : lookP ps key = some x) :
    Calls Try.prog 12 #[.pointer (some ⟨p, 0, none⟩), .string key, .slice vo m c, .int .u64 0, .int .u64 own] w fun r w' => r = .returned (.tuple #[.int .u64 0, .int .i64 12]) ∧ Below w.heap.size w w' := by
  obtain ⟨lo, n, cap, l, h⟩ := h
  have HFD := Lib.hid (find_any p lo n cap l ps F key w h hf.sorted (Nat.le_trans hf.len (by decide)))
  obtain ⟨hke, hkn⟩ := key_facts hk0
  have hkI : ¬ (64 : Int) < (key.size : Int) := by omega
  have hmI : ¬ (3840 : Int) < (m : Int) := by omega
  clear h
  go_enter Try.func12, Try.ntmps12
  go_wp2_with fail
  (with_reducible refine HFD.out.mono ?_)
  rintro r w2 ⟨i, fd, rfl, hb2, hin, hlo, hhi, hfd⟩
  obtain rfl : fd = true := by
    cases fd with
    | true => rfl
    | false =>
      rw [look_no hf.sorted hlo hhi (fun h => by have := hfd.2 h; cases this)] at hl; cases hl
  have H2 := Lib.hid hb2
  clear hb2 hin hlo hhi hfd
  go_wp2
  go_ret2
  exact ⟨rfl, H2.out⟩
set_option maxHeartbeats 1000000 in
theorem put_version (p : Nat) (ps : List Pl) (F : List Nat) (key : ByteArray) (x : Pl) (vo : Option Addr) (m c want : Nat) (own : Int) (w : World) (h : TreeAt w p ps F) (hf : Fine ps) (hk0 : key.size ≠ 0) (hk : key.size ≤ 64) (hm4 : m ≤ 3840) (hl : lookP ps key = some x) (hw0 : want ≠ 0) (hx : x.ver ≠ want) :
    Calls Try.prog 12 #[.pointer (some ⟨p, 0, none⟩), .string key, .slice vo m c, .int .u64 (want : Int), .int .u64 own] w fun r w' => r = .returned (.tuple #[.int .u64 0, .int .i64 13]) ∧ Below w.heap.size w w' := by
  obtain ⟨lo, n, cap, l, h⟩ := h
  have HFD := Lib.hid (find_any p lo n cap l ps F key w h hf.sorted (Nat.le_trans hf.len (by decide)))
  have HI := Lib.hid h
  obtain ⟨hke, hkn⟩ := key_facts hk0
  have hkI : ¬ (64 : Int) < (key.size : Int) := by omega
  have hmI : ¬ (3840 : Int) < (m : Int) := by omega
  have hwI : ((want : Int) == 0) = false := by simp; omega
  clear h
  go_enter Try.func12, Try.ntmps12
  go_wp2_with fail
  (with_reducible refine HFD.out.mono ?_)
  rintro r w2 ⟨i, fd, rfl, hb2, hin, hlo, hhi, hfd⟩
  obtain rfl : fd = true := by
    cases fd with
    | true => rfl
    | false =>
      rw [look_no hf.sorted hlo hhi (fun h => by have := hfd.2 h; cases this)] at hl; cases hl
  obtain ⟨x', hx', h0⟩ := hfd.1 rfl
  obtain rfl : x' = x := by rw [look_some hlo hx' h0] at hl; exact Option.some.inj hl
  obtain ⟨e, he, rfl⟩ := HI.out.got hx'
  have HI2 := Lib.hid (HI.out.keep (Chg.of_below hb2 (fun _ => False)) (fun _ _ h => h))
  have hii : (i : Int) < (n : Int) := by have := (List.getElem?_eq_some_iff.1 he).1; have := HI.out.len.1; omega
  have hi0 : (0 : Int) ≤ (i : Int) := by omega
  obtain ⟨b, off, hlo', q0, q1, q2, q3⟩ := nd_at HI2.out.own.row he
  subst hlo'
  obtain ⟨z0, z2⟩ := cells1 HI2.out.heap
  have hvI : ((e.ver : Int) == (want : Int)) = false := by
    have : e.ver ≠ want := hx
    simp; omega
  have H2 := Lib.hid hb2
  clear hb2 hin hlo hhi hfd hx' h0 hl he hx
  generalize (e.ver : Int) = V at *
  go_wp2
  go_ret2
  exact ⟨rfl, H2.out⟩
theorem set_end {w w0 W : World} {p i n cap b off : Nat} {l : List Nd} {ps : List Pl} {F : List Nat} {e : Nd} {x : Pl} (h : TreeIs w p (some ⟨b, off, none⟩) n cap l ps F) (hb0 : Chg (fun _ => False) w w0) (hbW : Chg (fun _ => False) w0 W) (hlo : LoP e.key ps i) (hx : ps[i]? = some x) (h0 : cmpB x.key e.key = 0)
    (hbody : Own w0 1 e.vo e.body.length e.vc (e.body.map cb)) (hnew : ∀ a, e.vo = some a → w.heap.size ≤ a.block) :
    Wrote w ((((W.setCell ⟨b, off + i * 4, none⟩ (.string e.key)).setCell ⟨b, off + i * 4 + 1, none⟩ (.slice e.vo e.body.length e.vc)).setCell ⟨b, off + i * 4 + 2, none⟩ (.int .u64 (e.ver : Int))).setCell ⟨b, off + i * 4 + 3, none⟩ (.int .u64 (e.own : Int))) p (setP ps e.pl) F := by
  obtain ⟨hl1, hl2⟩ := h.len
  have hil : i < n := by have := (List.getElem?_eq_some_iff.1 hx).1; omega
  have hC : Chg (fun _ => False) w W := hb0.trans hbW (fun _ _ h => h)
  have hW := hC.size
  have hw0W := hbW.size
  have hw0 := hb0.size
  have h1 := (h.own.keep hC (fun _ _ h => h)).set (i * 4) (.string e.key) (by omega)
  have h2 := h1.set (i * 4 + 1) (.slice e.vo e.body.length e.vc) (by omega)
  have h3 := h2.set (i * 4 + 2) (.int .u64 (e.ver : Int)) (by omega)
  have h4 := h3.set (i * 4 + 3) (.int .u64 (e.own : Int)) (by omega)
  rw [fl_set4 el_e l i e _ _ _ _ rfl (by omega)] at h4
  simp only [← Nat.add_assoc] at h4
  have hch : Chg (fun k => k = b) W ((((W.setCell ⟨b, off + i * 4, none⟩ (.string e.key)).setCell ⟨b, off + i * 4 + 1, none⟩ (.slice e.vo e.body.length e.vc)).setCell ⟨b, off + i * 4 + 2, none⟩ (.int .u64 (e.ver : Int))).setCell ⟨b, off + i * 4 + 3, none⟩ (.int .u64 (e.own : Int))) :=
    ((((Chg.refl (fun k => k = b) W).set (p := b) rfl _ _).set (p := b) rfl _ _).set (p := b) rfl _ _).set (p := b) rfl _ _
  have hbF : b ∈ F := h.bF b (mem_blk.2 ⟨_, rfl, rfl⟩)
  have hpb : p ≠ b := fun e => h.apart (mem_blk.2 ⟨_, rfl, e.symm⟩)
  have hbl : ∀ a, e.vo = some a → a.block < w0.heap.size := fun a ha => (hbody.at_ a ha).2.1
  refine ⟨F ++ blk e.vo, ⟨some ⟨b, off, none⟩, n, cap, l.set i e, ⟨?_, hch.heap (hC.heap h.heap (fun h => h)) hpb, h4, h.apart, fun y hy => ?_, by simp [h.pF], fun k hk => by simp [h.bF k hk], fun k hk => ?_⟩⟩, (hC.to (fun _ h => h.elim)).trans hch (fun k _ e => e ▸ hbF), fun k hk => ?_⟩
  · rw [setP_at (t := e.pl) hlo hx h0, ← h.map, List.map_set]
  · rcases List.mem_or_eq_of_mem_set hy with hy | rfl
    · obtain ⟨b1, b2, b3⟩ := h.body y hy
      exact ⟨hch.row (hC.row b1 (fun _ _ h => h)) (fun a ha e => (b3 a ha).2.2 (mem_blk.2 ⟨_, rfl, e.symm⟩)), b2, fun a ha => ⟨by simp [(b3 a ha).1], (b3 a ha).2⟩⟩
    · have hnb : ∀ a, y.vo = some a → a.block ≠ b := fun a ha e => by have := hnew a ha; have := h.lt b hbF; omega
      refine ⟨hch.row (hbW.row hbody.row (fun _ _ h => h)) hnb, hbody.le, fun a ha => ⟨by simp [mem_blk.2 ⟨a, ha, rfl⟩], fun e => ?_, fun hk => ?_⟩⟩
      · have := hnew a ha; have := h.lt p h.pF; omega
      · obtain ⟨a', ha', ea⟩ := mem_blk.1 hk
        cases ha'
        exact hnb a ha ea.symm
  · have hs := hch.size
    rcases List.mem_append.1 hk with hk | hk
    · have := h.lt k hk; omega
    · obtain ⟨a, ha, ea⟩ := mem_blk.1 hk
      have := hbl a ha; omega
  · rcases List.mem_append.1 hk with hk | hk
    · exact .inl hk
    · obtain ⟨a, ha, ea⟩ := mem_blk.1 hk
      right; have := hnew a ha; omega
set_option maxHeartbeats 2000000 in
set_option maxRecDepth 100000 in
theorem put_set (p : Nat) (ps : List Pl) (F : List Nat) (key : ByteArray) (x : Pl) (vo : Option Addr) (m c : Nat) (val : List UInt8) (want nv : Nat) (own : Int) (w : World) (h : TreeAt w p ps F) (hf : Fine ps) (hk0 : key.size ≠ 0) (hk : key.size ≤ 64) (hv : Bts w vo val) (hm : val.length = m) (hm4 : m ≤ 3840) (hl : lookP ps key = some x) (hw0 : want ≠ 0) (hx : x.ver = want) (hnv : IntKind.u64.wrap ((want : Int) + 1) = (nv : Int)) :
    Calls Try.prog 12 #[.pointer (some ⟨p, 0, none⟩), .string key, .slice vo m c, .int .u64 (want : Int), .int .u64 own] w fun r w' => r = .returned (.tuple #[.int .u64 (nv : Int), .int .i64 0]) ∧ Wrote w w' p (setP ps ⟨key, val, nv, x.own⟩) F := by
  obtain ⟨lo, n, cap, l, h⟩ := h
  have HFD := Lib.hid (find_any p lo n cap l ps F key w h hf.sorted (Nat.le_trans hf.len (by decide)))
  have HI := Lib.hid (And.intro h (And.intro hv hm))
  obtain ⟨hke, hkn⟩ := key_facts hk0
  have hkI : ¬ (64 : Int) < (key.size : Int) := by omega
  have hmI : ¬ (3840 : Int) < (m : Int) := by omega
  have hwI : ((want : Int) == 0) = false := by simp; omega
  clear h hv hm
  go_enter Try.func12, Try.ntmps12
  go_wp2_with fail
  (with_reducible refine HFD.out.mono ?_)
  rintro r w2 ⟨i, fd, rfl, hb2, hin, hlo, hhi, hfd⟩
  obtain rfl : fd = true := by
    cases fd with
    | true => rfl
    | false =>
      rw [look_no hf.sorted hlo hhi (fun h => by have := hfd.2 h; cases this)] at hl; cases hl
  obtain ⟨x', hx', h0⟩ := hfd.1 rfl
  obtain rfl : x' = x := by rw [look_some hlo hx' h0] at hl; exact Option.some.inj hl
  obtain ⟨e, he, rfl⟩ := HI.out.1.got hx'
  have hC2 := Chg.of_below hb2 (fun _ => False)
  have HI2 := Lib.hid (HI.out.1.keep hC2 (fun _ _ h => h))
  have hii : (i : Int) < (n : Int) := by have := (List.getElem?_eq_some_iff.1 he).1; have := HI.out.1.len.1; omega
  have hi0 : (0 : Int) ≤ (i : Int) := by omega
  obtain ⟨b, off, hlo', q0, q1, q2, q3⟩ := nd_at HI2.out.own.row he
  subst hlo'
  obtain ⟨z0, z2⟩ := cells1 HI2.out.heap
  have hve : e.ver = want := hx
  rw [hve] at q2
  have HCL := Lib.hid (clone_any vo m c val w2 HI.out.2.2 (by omega) (HI.out.2.1.below hb2))
  have H2 := Lib.hid (And.intro hC2 (And.intro hlo (And.intro hx' (And.intro h0 he))))
  clear hb2 hin hlo hhi hfd hx' h0 hl he hx hC2
  go_wp2_with fail
  (with_reducible refine HCL.out.mono ?_)
  rintro r w3 ⟨bo, bc, rfl, hb3, ho3, hn3⟩
  have hC3 := Chg.of_below hb3 (fun _ => False)
  have hA := (Chg.refl (fun _ => False) w3).alloc (.cells #[.string key, .slice bo m bc, .int .u64 (nv : Int), .int .u64 own] 32)
  have hA2 := (Chg.refl (fun _ => False) w3).alloc (.cells #[.string key, .slice bo m bc, .int .u64 (nv : Int), .int .u64 (e.own : Int)] 32)
  have r3 := (hC3.trans hA (fun _ _ h => h)).cell q3 (fun h => h)
  have y0 := (hC3.trans hA (fun _ _ h => h)).cell z0 (fun h => h)
  have s0 := (hC3.trans hA2 (fun _ _ h => h)).cell q0 (fun h => h)
  have H3 := Lib.hid (And.intro hC3 (And.intro ho3 (And.intro hn3 hA2)))
  clear hb3 ho3 hn3 hC3
  have HTb := Lib.hid (show ¬ w3.heap.size = b ∧ ¬ w3.heap.size = p from ⟨fun h => by have := HI2.out.lt b (HI2.out.bF b (mem_blk.2 ⟨_, rfl, rfl⟩)); have := H3.out.1.size; omega, fun h => by have := HI2.out.lt p HI2.out.pF; have := H3.out.1.size; omega⟩)
  have hI4 := HI2.out.keep (H3.out.1.trans H3.out.2.2.2 (fun _ _ h => h)) (fun _ _ h => h)
  have hT4 := heap_top w3 (.cells #[.string key, .slice bo m bc, .int .u64 (nv : Int), .int .u64 (e.own : Int)] 32)
  have hC4 := H3.out.2.2.2
  go_upto_region 19 with fail
  generalize w3.alloc (.cells #[.string key, .slice bo m bc, .int .u64 (nv : Int), .int .u64 (e.own : Int)] 32) = W4 at *
  generalize w3.heap.size = T at *
  clear q0 q1 q2 q3 z0 z2 r3 y0 s0 hA hA2
  obtain ⟨b', off', hbo, q0, q1, q2, q3⟩ := nd_at hI4.own.row H2.out.2.2.2.2
  cases hbo
  obtain ⟨z0, z2⟩ := cells1 hI4.heap
  obtain ⟨t0, t1, t2, t3, _⟩ := cells4 hT4
  have hnc := hI4.own.le
  have hin : i < n := by omega
  have hfr : ∀ j, j < cap * 4 → W4.frozen? ⟨b, off + j, none⟩ = false := fun j hj => ((hI4.own.at_ _ rfl).2.2.1 j hj).2
  have f0 := hfr (i * 4) (by omega)
  have f1 := hfr (i * 4 + 1) (by omega)
  have f2 := hfr (i * 4 + 2) (by omega)
  have f3 := hfr (i * 4 + 3) (by omega)
  simp only [← Nat.add_assoc] at f1 f2 f3
  obtain ⟨hTb, hTp⟩ := HTb.out
  have HI4 := Lib.hid (And.intro hI4 hC4)
  clear hI4 hT4 hC4 hfr hnc
  have z0d : W4.drew.cell? ⟨p, 0, none⟩ = some (.slice (some ⟨b, off, none⟩) n cap) := z0
  have t0d : W4.drew.cell? ⟨T, 0, none⟩ = some (.string key) := t0
  have t1d : W4.drew.cell? ⟨T, 1, none⟩ = some (.slice bo m bc) := t1
  have t2d : W4.drew.cell? ⟨T, 2, none⟩ = some (.int .u64 (nv : Int)) := t2
  have t3d : W4.drew.cell? ⟨T, 3, none⟩ = some (.int .u64 (e.own : Int)) := t3
  have q0d : W4.drew.cell? ⟨b, off + i * 4, none⟩ = some (.string e.key) := q0
  have q1d : W4.drew.cell? ⟨b, off + i * 4 + 1, none⟩ = some (.slice e.vo e.body.length e.vc) := q1
  have q2d : W4.drew.cell? ⟨b, off + i * 4 + 2, none⟩ = some (.int .u64 (e.ver : Int)) := q2
  have q3d : W4.drew.cell? ⟨b, off + i * 4 + 3, none⟩ = some (.int .u64 (e.own : Int)) := q3
  have f0d : W4.drew.frozen? ⟨b, off + i * 4, none⟩ = false := f0
  have f1d : W4.drew.frozen? ⟨b, off + i * 4 + 1, none⟩ = false := f1
  have f2d : W4.drew.frozen? ⟨b, off + i * 4 + 2, none⟩ = false := f2
  have f3d : W4.drew.frozen? ⟨b, off + i * 4 + 3, none⟩ = false := f3
  go_region
  all_goals go_wp2
  all_goals (
    go_ret2
    refine ⟨rfl, ?_⟩
    have := set_end (e := ⟨key, val, nv, e.own, bo, bc⟩) HI.out.1 (H2.out.1.trans H3.out.1 (fun _ _ h => h)) (HI4.out.2.drew) H2.out.2.1 H2.out.2.2.1 H2.out.2.2.2.1 (by dsimp only; rw [HI.out.2.2]; exact H3.out.2.1) (fun a ha => Nat.le_trans H2.out.1.size (H3.out.2.2.1 a ha))
    simp only [HI.out.2.2] at this
    exact this)
end Go.Proofs.Ytebhbfjnobcckaa
