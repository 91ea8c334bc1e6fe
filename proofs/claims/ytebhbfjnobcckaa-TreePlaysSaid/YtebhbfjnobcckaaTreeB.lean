/-
  LAYER 6: copied, Get.
-/
import Derived.Test.YtebhbfjnobcckaaTreeA
import Derived.Deep.RegionHeld3
import Derived.Laws.ResultCell
namespace Go.Proofs.Ytebhbfjnobcckaa
open Go Go.RowKit

set_option maxHeartbeats 1000000 in
theorem copied_any (e : Nd) (w : World) (hb : Bts w e.vo e.body) (hl : e.body.length ≤ 1000000) :
    Calls Try.prog 31 #[e.val] w fun r w' => ∃ bo bc, r = .returned (Nd.mk e.key e.body e.ver e.own bo bc).val ∧ Below w.heap.size w w' ∧ Own w' 1 bo e.body.length bc (e.body.map cb) ∧ ∀ a, bo = some a → w.heap.size ≤ a.block := by
  obtain ⟨xk, xb, xv, xw, xo, xc⟩ := e
  dsimp only at *
  change Calls _ _ #[.agg #[.string xk, .slice xo xb.length xc, .int .u64 (xv : Int), .int .u64 (xw : Int)]] w _
  have h1 := heap_new (o := .cells #[.string ⟨#[]⟩, .slice none 0 0, .int .u64 0, .int .u64 0] 32) (heap_top w (.cells #[.string xk, .slice xo xb.length xc, .int .u64 (xv : Int), .int .u64 (xw : Int)] 32))
  have h2 := heap_top (w.alloc (.cells #[.string xk, .slice xo xb.length xc, .int .u64 (xv : Int), .int .u64 (xw : Int)] 32)) (.cells #[.string ⟨#[]⟩, .slice none 0 0, .int .u64 0, .int .u64 0] 32)
  rw [size_alloc] at h2
  have HB := Lib.hid (((Below.refl w.heap.size w).alloc (Nat.le_refl _) (.cells #[.string xk, .slice xo xb.length xc, .int .u64 (xv : Int), .int .u64 (xw : Int)] 32)).alloc (by rw [size_alloc]; omega) (.cells #[.string ⟨#[]⟩, .slice none 0 0, .int .u64 0, .int .u64 0] 32))
  go_enter Try.func31, Try.ntmps31
  go_wp2_with fail
  generalize (w.alloc (.cells #[.string xk, .slice xo xb.length xc, .int .u64 (xv : Int), .int .u64 (xw : Int)] 32)).alloc (.cells #[.string ⟨#[]⟩, .slice none 0 0, .int .u64 0, .int .u64 0] 32) = W at *
  (with_reducible refine (clone_any xo xb.length xc xb W rfl (by omega) (hb.below HB.out)).mono ?_)
  rintro r w2 ⟨bo, bc, rfl, hb2, ho, hnew⟩
  have hC := Chg.of_below hb2 (fun _ => False)
  obtain ⟨a0, a1, a2, a3, a4⟩ := cells4 (hC.heap h1 (fun h => h))
  obtain ⟨b0, b1, b2, b3, b4⟩ := cells4 (hC.heap h2 (fun h => h))
  have hs2 : w.heap.size + 1 < w2.heap.size := Nat.lt_of_lt_of_le (heap_lt h2) hC.size
  have g0 := heap_far (a := ⟨w.heap.size, 1, none⟩) (hC.heap h2 (fun h => h)) (Nat.ne_of_gt (Nat.lt_succ_self w.heap.size)) (.slice bo xb.length bc)
  have g4 := heap_set (heap_set (heap_set (heap_set g0 0 (.string xk)) 1 (.slice bo xb.length bc)) 2 (.int .u64 (xv : Int))) 3 (.int .u64 (xw : Int))
  simp only [List.setIfInBounds_toArray, List.set_cons_zero, List.set_cons_succ] at g4
  have hch5 : Chg (fun k => k = w.heap.size ∨ k = w.heap.size + 1) w2 (((((w2.setCell ⟨w.heap.size, 1, none⟩ (.slice bo xb.length bc)).setCell ⟨w.heap.size + 1, 0, none⟩ (.string xk)).setCell ⟨w.heap.size + 1, 1, none⟩ (.slice bo xb.length bc)).setCell ⟨w.heap.size + 1, 2, none⟩ (.int .u64 (xv : Int))).setCell ⟨w.heap.size + 1, 3, none⟩ (.int .u64 (xw : Int))) :=
    (((((Chg.refl _ w2).set (p := w.heap.size) (.inl rfl) 1 _).set (p := w.heap.size + 1) (.inr rfl) 0 _).set (p := w.heap.size + 1) (.inr rfl) 1 _).set (p := w.heap.size + 1) (.inr rfl) 2 _).set (p := w.heap.size + 1) (.inr rfl) 3 _
  have hbw := HB.out.trans (hb2.mono HB.out.size)
  have HF := Lib.hid (And.intro g4 (And.intro (hbw.trans (hch5.below hbw.size (fun k hk => by omega))) (And.intro (ho.keep hch5 (fun a ha h => by have := hnew a ha; have := heap_lt h2; omega)) (fun a ha => Nat.le_trans HB.out.size (hnew a ha)))))
  clear hb2 ho hnew hC h1 h2 g0 g4 hch5 hbw
  go_wp2
  generalize (((((w2.setCell ⟨w.heap.size, 1, none⟩ (.slice bo xb.length bc)).setCell ⟨w.heap.size + 1, 0, none⟩ (.string xk)).setCell ⟨w.heap.size + 1, 1, none⟩ (.slice bo xb.length bc)).setCell ⟨w.heap.size + 1, 2, none⟩ (.int .u64 (xv : Int))).setCell ⟨w.heap.size + 1, 3, none⟩ (.int .u64 (xw : Int))) = W5 at *
  obtain ⟨c0, c1, c2, c3, _⟩ := cells4 HF.out.1
  refine bodyPost_ret (v := (Nd.mk xk xb xv xw bo bc).val) (w := W5) ?_ rfl ?_
  · simp [results, Try.results31, go_sem, c0, c1, c2, c3]
    rfl
  · exact ⟨bo, bc, rfl, HF.out.2⟩
/-! ### plain words -/
def lookP : List Pl → ByteArray → Option Pl
  | [], _ => none
  | x :: l, key => if cmpB x.key key = 0 then some x else lookP l key
theorem look_some : ∀ {ps : List Pl} {key : ByteArray} {i : Nat} {x : Pl}, LoP key ps i → ps[i]? = some x → cmpB x.key key = 0 → lookP ps key = some x
  | [], _, _, _, _, hx, _ => by simp at hx
  | y :: ps, key, 0, x, _, hx, h0 => by simp at hx; subst hx; rw [lookP, if_pos h0]
  | y :: ps, key, i + 1, x, hlo, hx, h0 => by
    have h1 := hlo 0 y (by omega) rfl
    rw [lookP, if_neg (by omega)]
    exact look_some (i := i) (fun k z hk hz => hlo (k + 1) z (by omega) (by simpa using hz)) (by simpa using hx) h0
theorem look_none {ps : List Pl} {key : ByteArray} (h : ∀ x ∈ ps, cmpB x.key key ≠ 0) : lookP ps key = none := by
  induction ps with
  | nil => rfl
  | cons y ps ih => rw [lookP, if_neg (h y (by simp)), ih (fun x hx => h x (by simp [hx]))]
theorem look_no {ps : List Pl} {key : ByteArray} {i : Nat} (hs : Sorted ps) (hlo : LoP key ps i) (hhi : HiP key ps i) (hno : ¬ ∃ x, ps[i]? = some x ∧ cmpB x.key key = 0) : lookP ps key = none := by
  refine look_none (fun x hx h0 => ?_)
  obtain ⟨j, hj, rfl⟩ := List.getElem_of_mem hx
  rcases Nat.lt_trichotomy j i with h | h | h
  · have := hlo j _ h (List.getElem?_eq_getElem hj); omega
  · subst h
    exact hno ⟨_, List.getElem?_eq_getElem hj, h0⟩
  · have hi : i < ps.length := by omega
    have h1 := hhi i _ (Nat.le_refl _) (List.getElem?_eq_getElem hi)
    have h2 := List.pairwise_iff_getElem.1 hs i j hi hj h
    have h3 : ps[j].key = key := cmpB_zero.1 h0
    rw [h3] at h2
    omega
structure Fine (ps : List Pl) : Prop where
  sorted : Sorted ps
  len : ps.length ≤ 256
  body : ∀ x ∈ ps, x.body.length ≤ 3840
  ver : ∀ x ∈ ps, x.ver < 18446744073709551616
  own : ∀ x ∈ ps, x.own < 18446744073709551616
theorem Fine.nil : Fine [] := ⟨by simp [Sorted], by simp, by simp, by simp, by simp⟩
/-! ### Get -/
def zeroNd : Value := .agg #[.string ⟨#[]⟩, .slice none 0 0, .int .u64 0, .int .u64 0]
theorem nd_at {w : World} {lo : Option Addr} {l : List Nd} {i : Nat} {e : Nd} (h : Row w lo (l.flatMap Nd.cells)) (he : l[i]? = some e) :
    ∃ b off, lo = some ⟨b, off, none⟩ ∧ w.cell? ⟨b, off + i * 4, none⟩ = some (.string e.key) ∧ w.cell? ⟨b, off + i * 4 + 1, none⟩ = some (.slice e.vo e.body.length e.vc) ∧ w.cell? ⟨b, off + i * 4 + 2, none⟩ = some (.int .u64 (e.ver : Int)) ∧ w.cell? ⟨b, off + i * 4 + 3, none⟩ = some (.int .u64 (e.own : Int)) := by
  obtain ⟨b, off, rfl, h1⟩ := row_at' h he
  have q0 := h1 0 _ rfl
  have q1 := h1 1 _ rfl
  have q2 := h1 2 _ rfl
  have q3 := h1 3 _ rfl
  simp only [Nat.add_zero, ← Nat.add_assoc] at q0 q1 q2 q3
  exact ⟨b, off, rfl, q0, q1, q2, q3⟩
set_option maxHeartbeats 1000000 in
theorem get_none (p : Nat) (ps : List Pl) (F : List Nat) (key : ByteArray) (w : World) (h : TreeAt w p ps F) (hf : Fine ps) (hl : lookP ps key = none) :
    Calls Try.prog 13 #[.pointer (some ⟨p, 0, none⟩), .string key] w fun r w' => r = .returned (.tuple #[zeroNd, .bool false]) ∧ Below w.heap.size w w' := by
  have HA := Lib.hid ((Below.refl _ w).alloc (Nat.le_refl _) (.cells #[.string ⟨#[]⟩, .slice none 0 0, .int .u64 0, .int .u64 0] 32))
  have hT := heap_top w (.cells #[.string ⟨#[]⟩, .slice none 0 0, .int .u64 0, .int .u64 0] 32)
  obtain ⟨lo, n, cap, l, h⟩ := h
  have HFD := Lib.hid (find_any p lo n cap l ps F key _ (h.keep (Chg.of_below HA.out (fun _ => False)) (fun _ _ h => h)) hf.sorted (Nat.le_trans hf.len (by decide)))
  clear h
  go_enter Try.func13, Try.ntmps13
  go_wp2_with fail
  (with_reducible refine HFD.out.mono ?_)
  rintro r w2 ⟨i, fd, rfl, hb2, hin, hlo, hhi, hfd⟩
  obtain rfl : fd = false := by
    cases fd with
    | false => rfl
    | true =>
      obtain ⟨x, hx, h0⟩ := hfd.1 rfl
      rw [look_some hlo hx h0] at hl; cases hl
  have hC := Chg.of_below hb2 (fun _ => False)
  have hbw := HA.out.trans (hb2.mono HA.out.size)
  have g0 := hC.heap hT (fun h => h)
  have g4 := heap_set (heap_set (heap_set (heap_set g0 0 (.string ⟨#[]⟩)) 1 (.slice none 0 0)) 2 (.int .u64 0)) 3 (.int .u64 0)
  simp only [List.setIfInBounds_toArray, List.set_cons_zero, List.set_cons_succ] at g4
  obtain ⟨b0, b1, b2, b3, b4⟩ := cells4 g0
  have hch5 : Chg (fun k => k = w.heap.size) w2 ((((w2.setCell ⟨w.heap.size, 0, none⟩ (.string ⟨#[]⟩)).setCell ⟨w.heap.size, 1, none⟩ (.slice none 0 0)).setCell ⟨w.heap.size, 2, none⟩ (.int .u64 0)).setCell ⟨w.heap.size, 3, none⟩ (.int .u64 0)) :=
    ((((Chg.refl (fun k => k = w.heap.size) w2).set (p := w.heap.size) rfl 0 _).set (p := w.heap.size) rfl 1 _).set (p := w.heap.size) rfl 2 _).set (p := w.heap.size) rfl 3 _
  have HF := Lib.hid (And.intro g4 (hbw.trans (hch5.below hbw.size (fun k hk => Nat.le_of_eq hk.symm))))
  clear hb2 hin hlo hhi hfd hC hbw g0 g4 hch5 hT
  go_wp2
  generalize ((((w2.setCell ⟨w.heap.size, 0, none⟩ (.string ⟨#[]⟩)).setCell ⟨w.heap.size, 1, none⟩ (.slice none 0 0)).setCell ⟨w.heap.size, 2, none⟩ (.int .u64 0)).setCell ⟨w.heap.size, 3, none⟩ (.int .u64 0)) = W5 at *
  obtain ⟨c0, c1, c2, c3, _⟩ := cells4 HF.out.1
  refine bodyPost_ret (v := .tuple #[zeroNd, .bool false]) (w := W5) ?_ rfl ?_
  · simp [results, Try.results13, go_sem, c0, c1, c2, c3]
    rfl
  · exact ⟨rfl, HF.out.2⟩
set_option maxHeartbeats 1000000 in
theorem get_some (p : Nat) (ps : List Pl) (F : List Nat) (key : ByteArray) (x : Pl) (w : World) (h : TreeAt w p ps F) (hf : Fine ps) (hl : lookP ps key = some x) :
    Calls Try.prog 13 #[.pointer (some ⟨p, 0, none⟩), .string key] w fun r w' => ∃ bo bc, r = .returned (.tuple #[(Nd.mk x.key x.body x.ver x.own bo bc).val, .bool true]) ∧ Below w.heap.size w w' ∧ Own w' 1 bo x.body.length bc (x.body.map cb) ∧ ∀ a, bo = some a → w.heap.size ≤ a.block := by
  have HA := Lib.hid ((Below.refl _ w).alloc (Nat.le_refl _) (.cells #[.string ⟨#[]⟩, .slice none 0 0, .int .u64 0, .int .u64 0] 32))
  have hT := heap_top w (.cells #[.string ⟨#[]⟩, .slice none 0 0, .int .u64 0, .int .u64 0] 32)
  obtain ⟨lo, n, cap, l, h⟩ := h
  have HFD := Lib.hid (find_any p lo n cap l ps F key _ (h.keep (Chg.of_below HA.out (fun _ => False)) (fun _ _ h => h)) hf.sorted (Nat.le_trans hf.len (by decide)))
  have HI := Lib.hid h
  clear h
  go_enter Try.func13, Try.ntmps13
  go_wp2_with fail
  (with_reducible refine HFD.out.mono ?_)
  rintro r w2 ⟨i, fd, rfl, hb2, hin, hlo, hhi, hfd⟩
  have hbw := HA.out.trans (hb2.mono HA.out.size)
  have hC := Chg.of_below hbw (fun _ => False)
  obtain rfl : fd = true := by
    cases fd with
    | true => rfl
    | false =>
      rw [look_no hf.sorted hlo hhi (fun h => by have := hfd.2 h; cases this)] at hl; cases hl
  obtain ⟨x', hx, h0⟩ := hfd.1 rfl
  obtain rfl : x' = x := by rw [look_some hlo hx h0] at hl; exact Option.some.inj hl
  obtain ⟨e, he, rfl⟩ := HI.out.got hx
  have HI2 := Lib.hid (HI.out.keep hC (fun _ _ h => h))
  have hii : (i : Int) < (n : Int) := by have := (List.getElem?_eq_some_iff.1 he).1; have := HI.out.len.1; omega
  have hi0 : (0 : Int) ≤ (i : Int) := by omega
  obtain ⟨b, off, hlo', q0, q1, q2, q3⟩ := nd_at HI2.out.own.row he
  subst hlo'
  obtain ⟨z0, z2⟩ := cells1 HI2.out.heap
  have HCO := Lib.hid (show Calls Try.prog 31 #[.agg #[.string e.key, .slice e.vo e.body.length e.vc, .int .u64 (e.ver : Int), .int .u64 (e.own : Int)]] w2 _ from copied_any e w2 (HI2.out.body e (List.mem_of_getElem? he)).1 (Nat.le_trans (hf.body e.pl (List.mem_of_getElem? hx)) (by decide)))
  have HT2 := Lib.hid (And.intro ((Chg.of_below hb2 (fun _ => False)).heap hT (fun h => h)) hbw)
  obtain ⟨xk, xb, xv, xw, xo, xc⟩ := e
  dsimp only [Nd.pl] at *
  clear hb2 hin hlo hhi hfd hC hbw hT hx h0 hl he
  go_wp2_with fail
  (with_reducible refine HCO.out.mono ?_)
  rintro r w3 ⟨bo, bc, rfl, hb3, ho, hnew⟩
  have g0 := (Chg.of_below hb3 (fun _ => False)).heap HT2.out.1 (fun h => h)
  obtain ⟨b0, b1, b2, b3, b4⟩ := cells4 g0
  have g4 := heap_set (heap_set (heap_set (heap_set g0 0 (.string xk)) 1 (.slice bo xb.length bc)) 2 (.int .u64 (xv : Int))) 3 (.int .u64 (xw : Int))
  simp only [List.setIfInBounds_toArray, List.set_cons_zero, List.set_cons_succ] at g4
  have hch5 : Chg (fun k => k = w.heap.size) w3 ((((w3.setCell ⟨w.heap.size, 0, none⟩ (.string xk)).setCell ⟨w.heap.size, 1, none⟩ (.slice bo xb.length bc)).setCell ⟨w.heap.size, 2, none⟩ (.int .u64 (xv : Int))).setCell ⟨w.heap.size, 3, none⟩ (.int .u64 (xw : Int))) :=
    ((((Chg.refl (fun k => k = w.heap.size) w3).set (p := w.heap.size) rfl 0 _).set (p := w.heap.size) rfl 1 _).set (p := w.heap.size) rfl 2 _).set (p := w.heap.size) rfl 3 _
  have hbw := HT2.out.2.trans (hb3.mono HT2.out.2.size)
  have HF := Lib.hid (And.intro g4 (And.intro (hbw.trans (hch5.below hbw.size (fun k hk => Nat.le_of_eq hk.symm))) (And.intro (ho.keep hch5 (fun a ha h => by have := hnew a ha; have := heap_lt HT2.out.1; omega)) (fun a ha => Nat.le_trans HT2.out.2.size (hnew a ha)))))
  clear hb3 ho hnew g0 g4 hch5 hbw
  dsimp only [Nd.val]
  go_wp2
  generalize ((((w3.setCell ⟨w.heap.size, 0, none⟩ (.string xk)).setCell ⟨w.heap.size, 1, none⟩ (.slice bo xb.length bc)).setCell ⟨w.heap.size, 2, none⟩ (.int .u64 (xv : Int))).setCell ⟨w.heap.size, 3, none⟩ (.int .u64 (xw : Int))) = W5 at *
  obtain ⟨c0, c1, c2, c3, _⟩ := cells4 HF.out.1
  refine bodyPost_ret (v := .tuple #[(Nd.mk xk xb xv xw bo bc).val, .bool true]) (w := W5) ?_ rfl ?_
  · simp [results, Try.results13, go_sem, c0, c1, c2, c3]
    rfl
  · exact ⟨bo, bc, rfl, HF.out.2⟩
end Go.Proofs.Ytebhbfjnobcckaa
