/-
  LAYER 8: a keeper's Get, List, Now, Live; none at all; Open of an empty disk.
-/
import Derived.Test.YtackmgmaippajaaGreatMtD
namespace Go.Proofs.YtackmgmaippajaaGreat
open Go Go.RowKit

theorem keeper_now (k p kp bp j : Nat) (s : St) (d : Jr.Dsk) (F1 F2 G : List Nat) (w : World) (h : KeepAt w k p s d kp bp j F1 F2 G) :
    Calls Tryz.prog 16 #[.pointer (some ⟨k, 0, none⟩)] w fun e w' => e = .returned (.int .u64 (s.now : Int)) ∧ w = w' := by
  obtain ⟨z0, z1, z2, zf⟩ := h.st.cell
  clear h
  go_enter Tryz.func16, Tryz.ntmps16
  go_wp2
  go_ret
  exact ⟨rfl, rfl⟩
set_option maxHeartbeats 1000000 in
theorem keeper_list (k p kp bp j : Nat) (s : St) (d : Jr.Dsk) (F1 F2 G : List Nat) (pre : ByteArray) (w : World) (h : KeepAt w k p s d kp bp j F1 F2 G) (hf : Tr.Fine s.ps) :
    Calls Tryz.prog 15 #[.pointer (some ⟨k, 0, none⟩), .string pre] w fun r w' => ∃ xo xc es, r = .returned (.slice xo (Tr.listP s.ps pre).length xc) ∧ Below w.heap.size w w' ∧ Tr.NodesAt w' xo es ∧ es.map Nd.pl = Tr.listP s.ps pre ∧ (∀ a, xo = some a → w.heap.size ≤ a.block) ∧ ∀ e ∈ es, ∀ a, e.vo = some a → w.heap.size ≤ a.block := by
  obtain ⟨z0, z1, z2, zf⟩ := h.st.cell
  have HL := Lib.hid (Tr.list_pre kp pre s.ps F1 w h.st.tree hf.len hf.body)
  clear h hf
  go_enter Tryz.func15, Tryz.ntmps15
  go_wp2_with fail
  (with_reducible refine HL.out.mono ?_)
  rintro r w1 ⟨xo, xc, es, rfl, h1⟩
  have H1 := Lib.hid h1
  clear h1
  go_wp2
  go_ret
  exact ⟨xo, xc, es, rfl, H1.out⟩
set_option maxHeartbeats 2000000 in
set_option maxRecDepth 100000 in
theorem keeper_live (k p kp bp j id : Nat) (s : St) (d : Jr.Dsk) (F1 F2 G : List Nat) (w : World) (h : KeepAt w k p s d kp bp j F1 F2 G) (hl : s.l.length ≤ 1000000) :
    Calls Tryz.prog 52 #[.pointer (some ⟨k, 0, none⟩), .int .u64 (id : Int)] w fun e w' => e = .returned (.bool (Ls.liveL s.l id s.now)) ∧ Below w.heap.size w w' := by
  obtain ⟨z0, z1, z2, zf⟩ := h.st.cell
  have hS0 : w.drew.cell? ⟨k, 0, none⟩ = some (.int .u64 (s.now : Int)) ∧ w.drew.cell? ⟨k, 2, none⟩ = some (.pointer (some ⟨bp, 0, none⟩)) := ⟨z0, z2⟩
  have HL := Lib.hid (Ls.live_any bp s.last id s.now s.l F2 w.drew (h.st.book.keep (Chg.of_below (Below.refl _ _).drew (fun _ => False)) (fun _ _ h => h)) hl)
  clear h z0 z1 z2 zf
  go_enter Tryz.func52, Tryz.ntmps52
  go_wp2
  go_region_held3 (fun wx => wx.cell? ⟨k, 0, none⟩ = some (.int .u64 (s.now : Int)) ∧ wx.cell? ⟨k, 2, none⟩ = some (.pointer (some ⟨bp, 0, none⟩)))
    (first | exact hS0 | exact hS1)
    (first | (go_at_call 79; (with_reducible refine HL.out.mono ?_); rintro e w1 ⟨rfl, hb⟩; have hS1 := And.intro ((Chg.of_below hb (fun _ => False)).cell hS0.1 (fun h => h)) ((Chg.of_below hb (fun _ => False)).cell hS0.2 (fun h => h)); have H1 := Lib.hid hb; clear hb))
  go_wp2
  go_ret
  exact ⟨rfl, (Below.refl _ _).drew.trans H1.out⟩
/-! ### no keeper -/
theorem nil_now (w : World) : Calls Tryz.prog 16 #[.pointer none] w fun e w' => e = .returned (.int .u64 0) ∧ w = w' := by
  go_enter Tryz.func16, Tryz.ntmps16
  go_wp2
  go_ret
  exact ⟨rfl, rfl⟩
theorem nil_list (pre : Value) (w : World) : Calls Tryz.prog 15 #[.pointer none, pre] w fun e w' => e = .returned (.slice none 0 0) ∧ w = w' := by
  go_enter Tryz.func15, Tryz.ntmps15
  go_wp2
  go_ret
  exact ⟨rfl, rfl⟩
theorem nil_live (id : Value) (w : World) : Calls Tryz.prog 52 #[.pointer none, id] w fun e w' => e = .returned (.bool false) ∧ ∃ n, w' = w.drewN n := by
  go_enter Tryz.func52, Tryz.ntmps52
  go_wp2
  go_quiet (fail)
  go_wp2
  go_ret
  exact ⟨rfl, _, rfl⟩
theorem nil_do (a b c d g f : Value) (w : World) : Calls Tryz.prog 18 #[.pointer none, .agg #[a, b, c, d, g, f]] w fun e w' => e = .returned (.tuple #[.int .u64 0, .slice none 0 0, .int .i64 1]) ∧ Below w.heap.size w w' := by
  go_enter Tryz.func18, Tryz.ntmps18
  go_wp2
  go_ret3
  exact ⟨rfl, (Below.refl _ _).alloc (Nat.le_refl _) _⟩
theorem four_set {w : World} {T : Nat} {a b c d x y z u : Value} {t : TypeId} (h : w.heap[T]? = some (.cells #[a, b, c, d] t (0, 0))) :
    ((((w.setCell ⟨T, 0, none⟩ x).setCell ⟨T, 1, none⟩ y).setCell ⟨T, 2, none⟩ z).setCell ⟨T, 3, none⟩ u).heap[T]? = some (.cells #[x, y, z, u] t (0, 0)) := by
  have h4 := heap_set (heap_set (heap_set (heap_set h 0 x) 1 y) 2 z) 3 u
  simpa using h4
theorem four_chg (w : World) (T : Nat) (x y z u : Value) : Chg (· = T) w ((((w.setCell ⟨T, 0, none⟩ x).setCell ⟨T, 1, none⟩ y).setCell ⟨T, 2, none⟩ z).setCell ⟨T, 3, none⟩ u) :=
  ((((Chg.refl (· = T) w).set (p := T) rfl 0 _).set (p := T) rfl 1 _).set (p := T) rfl 2 _).set (p := T) rfl 3 _
set_option maxHeartbeats 1000000 in
theorem nil_get (key : Value) (w : World) : Calls Tryz.prog 24 #[.pointer none, key] w fun e w' => e = .returned (.tuple #[Tr.zeroNd, .bool false]) ∧ Below w.heap.size w w' := by
  have hT := heap_top w (.cells #[.string ⟨#[]⟩, .slice none 0 0, .int .u64 0, .int .u64 0] 78)
  have HA := Lib.hid ((Below.refl _ w).alloc (Nat.le_refl _) (.cells #[.string ⟨#[]⟩, .slice none 0 0, .int .u64 0, .int .u64 0] 78))
  go_enter Tryz.func24, Tryz.ntmps24
  go_upto_region 1 with fail
  generalize w.alloc (.cells #[.string ⟨#[]⟩, .slice none 0 0, .int .u64 0, .int .u64 0] 78) = wa at *
  obtain ⟨b0, b1, b2, b3, b4⟩ := cells4 hT
  have h4 := four_set (x := .string ⟨#[]⟩) (y := .slice none 0 0) (z := .int .u64 0) (u := .int .u64 0) hT
  have hc := four_chg wa w.heap.size (.string ⟨#[]⟩) (.slice none 0 0) (.int .u64 0) (.int .u64 0)
  have HF := Lib.hid (And.intro h4 (HA.out.trans (hc.below HA.out.size (fun k hk => Nat.le_of_eq hk.symm))))
  clear h4 hc hT
  go_wp2
  generalize (((wa.setCell ⟨w.heap.size, 0, none⟩ (.string ⟨#[]⟩)).setCell ⟨w.heap.size, 1, none⟩ (.slice none 0 0)).setCell ⟨w.heap.size, 2, none⟩ (.int .u64 0)).setCell ⟨w.heap.size, 3, none⟩ (.int .u64 0) = W5 at *
  obtain ⟨c0, c1, c2, c3, _⟩ := cells4 HF.out.1
  refine bodyPost_ret (v := .tuple #[Tr.zeroNd, .bool false]) (w := W5) ?_ rfl ?_
  · simp [results, Tryz.results24, go_sem, c0, c1, c2, c3]
    rfl
  · exact ⟨rfl, HF.out.2⟩
/-- What a keeper's Get answers. -/
def gotV (x : Option Tr.Pl) (bo : Option Addr) (bc : Nat) : Value := match x with
  | none => .tuple #[Tr.zeroNd, .bool false]
  | some x => .tuple #[(Nd.mk x.key x.body x.ver x.own bo bc).val, .bool true]
set_option maxHeartbeats 1000000 in
theorem keeper_get (k p kp bp j : Nat) (s : St) (d : Jr.Dsk) (F1 F2 G : List Nat) (key : ByteArray) (w : World) (h : KeepAt w k p s d kp bp j F1 F2 G) (hf : Tr.Fine s.ps) :
    Calls Tryz.prog 24 #[.pointer (some ⟨k, 0, none⟩), .string key] w fun r w' => ∃ bo bc, r = .returned (gotV (Tr.lookP s.ps key) bo bc) ∧ Below w.heap.size w w' ∧ ∀ x, Tr.lookP s.ps key = some x → Own w' 1 bo x.body.length bc (x.body.map cb) ∧ ∀ a, bo = some a → w.heap.size ≤ a.block := by
  have hT := heap_top w (.cells #[.string ⟨#[]⟩, .slice none 0 0, .int .u64 0, .int .u64 0] 78)
  have HA := Lib.hid ((Below.refl _ w).alloc (Nat.le_refl _) (.cells #[.string ⟨#[]⟩, .slice none 0 0, .int .u64 0, .int .u64 0] 78))
  have hh := h.stays HA.out
  clear h
  go_enter Tryz.func24, Tryz.ntmps24
  go_upto_region 1 with fail
  generalize w.alloc (.cells #[.string ⟨#[]⟩, .slice none 0 0, .int .u64 0, .int .u64 0] 78) = wa at *
  obtain ⟨z0, z1, z2, zf⟩ := hh.st.cell
  have HT := Lib.hid hT
  clear hT
  cases hl : Tr.lookP s.ps key with
  | none =>
    have HG := Lib.hid (Tr.get_none kp s.ps F1 key wa hh.st.tree hf hl)
    have HLK := Lib.hid hl
    clear hh hf hl
    go_wp2_with fail
    (with_reducible refine HG.out.mono ?_)
    rintro r w2 ⟨rfl, hb2⟩
    have hT2 := (Chg.of_below hb2 (fun _ => False)).heap HT.out (fun h => h)
    obtain ⟨b0, b1, b2, b3, b4⟩ := cells4 hT2
    have hbw := HA.out.trans (hb2.mono HA.out.size)
    have h4 := four_set (x := .string ⟨#[]⟩) (y := .slice none 0 0) (z := .int .u64 0) (u := .int .u64 0) hT2
    have hc := four_chg w2 w.heap.size (.string ⟨#[]⟩) (.slice none 0 0) (.int .u64 0) (.int .u64 0)
    have HF := Lib.hid (And.intro h4 (hbw.trans (hc.below hbw.size (fun k hk => Nat.le_of_eq hk.symm))))
    clear h4 hc hT2 hbw hb2
    dsimp only [Tr.zeroNd]
    go_wp2
    generalize (((w2.setCell ⟨w.heap.size, 0, none⟩ (.string ⟨#[]⟩)).setCell ⟨w.heap.size, 1, none⟩ (.slice none 0 0)).setCell ⟨w.heap.size, 2, none⟩ (.int .u64 0)).setCell ⟨w.heap.size, 3, none⟩ (.int .u64 0) = W5 at *
    obtain ⟨c0, c1, c2, c3, _⟩ := cells4 HF.out.1
    refine bodyPost_ret (v := .tuple #[Tr.zeroNd, .bool false]) (w := W5) ?_ rfl ?_
    · simp [results, Tryz.results24, go_sem, c0, c1, c2, c3]
      rfl
    · rw [HLK.out]
      exact ⟨none, 0, rfl, HF.out.2, fun x hx => by cases hx⟩
  | some x =>
    have HG := Lib.hid (Tr.get_some kp s.ps F1 key x wa hh.st.tree hf hl)
    have HLK := Lib.hid hl
    clear hh hf hl
    go_wp2_with fail
    (with_reducible refine HG.out.mono ?_)
    rintro r w2 ⟨bo, bc, rfl, hb2, ho2, hn2⟩
    obtain ⟨xk, xb, xv, xw⟩ := x
    have hT2 := (Chg.of_below hb2 (fun _ => False)).heap HT.out (fun h => h)
    obtain ⟨b0, b1, b2, b3, b4⟩ := cells4 hT2
    have hbw := HA.out.trans (hb2.mono HA.out.size)
    have h4 := four_set (x := .string xk) (y := .slice bo xb.length bc) (z := .int .u64 (xv : Int)) (u := .int .u64 (xw : Int)) hT2
    have hc := four_chg w2 w.heap.size (.string xk) (.slice bo xb.length bc) (.int .u64 (xv : Int)) (.int .u64 (xw : Int))
    have hsz := HA.out.size
    have hw1 : w.heap.size < wa.heap.size := heap_lt HT.out
    have HF := Lib.hid (And.intro h4 (And.intro (hbw.trans (hc.below hbw.size (fun k hk => Nat.le_of_eq hk.symm))) (And.intro (ho2.keep hc (fun a ha e => by have := hn2 a ha; omega)) (fun (a : Addr) (ha : bo = some a) => Nat.le_trans hsz (hn2 a ha)))))
    clear h4 hc hT2 hbw hb2 ho2 hn2
    dsimp only [Nd.val]
    go_wp2
    generalize (((w2.setCell ⟨w.heap.size, 0, none⟩ (.string xk)).setCell ⟨w.heap.size, 1, none⟩ (.slice bo xb.length bc)).setCell ⟨w.heap.size, 2, none⟩ (.int .u64 (xv : Int))).setCell ⟨w.heap.size, 3, none⟩ (.int .u64 (xw : Int)) = W5 at *
    obtain ⟨c0, c1, c2, c3, _⟩ := cells4 HF.out.1
    refine bodyPost_ret (v := .tuple #[(Nd.mk xk xb xv xw bo bc).val, .bool true]) (w := W5) ?_ rfl ?_
    · simp [results, Tryz.results24, go_sem, c0, c1, c2, c3]
      rfl
    · rw [HLK.out]
      exact ⟨bo, bc, rfl, HF.out.2.1, fun x hx => by cases hx; exact HF.out.2.2⟩
-- BEGINopen
theorem open_nil (w : World) : Calls Tryz.prog 14 #[.pointer none] w fun e w' => e = .returned (.tuple #[.pointer none, .int .i64 1]) ∧ w = w' := by
  go_enter Tryz.func14, Tryz.ntmps14
  go_wp2_with (go_at_call 42; (with_reducible refine (Jr.open_nil _).mono ?_); rintro e w1 ⟨rfl, rfl⟩)
  go_ret2
  exact ⟨rfl, rfl⟩
theorem St.new_ok : St.new.Ok := ⟨Tr.Fine.nil, by simp [St.new], by simp [St.new], by simp [St.new], by simp [St.new], by simp [St.new], by simp [St.new], by simp [St.new]⟩
set_option maxHeartbeats 1000000 in
theorem open_empty (p R : Nat) (F : List Nat) (w : World) (h : Jr.DiskAt 102 w p ⟨R, 0, []⟩ F) :
    Calls Tryz.prog 14 #[.pointer (some ⟨p, 0, none⟩)] w fun e w' => ∃ k kp bp j F1 F2 G, e = .returned (.tuple #[.pointer (some ⟨k, 0, none⟩), .int .i64 0]) ∧ KeepAt w' k p St.new ⟨R, 0, []⟩ kp bp j F1 F2 G ∧ Chg (· ∈ F) w w' ∧ ∀ i ∈ keepB k j F1 F2 G, i ∈ F ∨ w.heap.size ≤ i := by
  have HO := Lib.hid (Jr.open_any p ⟨R, 0, []⟩ F [] [] w h ⟨by simp [Jr.frames], by simp, by simp [unf]⟩ (by simp))
  go_enter Tryz.func14, Tryz.ntmps14
  go_wp2_with fail
  (with_reducible refine HO.out.mono ?_)
  rintro e w1 ⟨j, oo, n, cap, es, G, rfl, hj1, hB, hes, hc1, hg1, hj, -⟩
  obtain rfl : es = [] := by simpa using hes
  obtain rfl : n = 0 := by have := hB.len; simpa using this.symm
  have H1 := Lib.hid (And.intro hj1 (And.intro hc1 (And.intro hg1 hj)))
  clear hj1 hB hes hc1 hg1 hj
  go_wp2_with fail
  (with_reducible refine (fresh_any _).mono ?_)
  rintro e w2 ⟨kp, bp, F1, F2, rfl, hb2, ht2, hk2, n1, n2, dis⟩
  dsimp only [stVal, St.new]
  have H2 := Lib.hid (And.intro hb2 (And.intro ht2 (And.intro hk2 (And.intro n1 (And.intro n2 dis)))))
  clear hb2 ht2 hk2 n1 n2 dis
  go_wp2
  have hb3 := (Below.refl w2.heap.size w2).alloc (Nat.le_refl _) (.cells #[.int .u64 0, .pointer (some ⟨kp, 0, none⟩), .pointer (some ⟨bp, 0, none⟩), .pointer (some ⟨j, 0, none⟩)] 112)
  have hK := heap_top w2 (.cells #[.int .u64 0, .pointer (some ⟨kp, 0, none⟩), .pointer (some ⟨bp, 0, none⟩), .pointer (some ⟨j, 0, none⟩)] 112)
  have H3 := Lib.hid (And.intro hb3 hK)
  clear hb3 hK
  generalize w2.alloc (.cells #[.int .u64 0, .pointer (some ⟨kp, 0, none⟩), .pointer (some ⟨bp, 0, none⟩), .pointer (some ⟨j, 0, none⟩)] 112) = w3 at *
  go_loopg [25] 0 (fun g i wr => i = .int .i64 0 ∧ wr = w3)
  case atStart => exact ⟨rfl, rfl⟩
  case round =>
    obtain ⟨rfl, rfl⟩ := hrel
    go_wp2
    go_ret2
    have hj2 := (H1.out.1.stays H2.out.1).stays H3.out.1
    have hjl := heap_lt H1.out.1.jr
    have hGl := H1.out.1.disk.lt
    have hk2 := H2.out.1.size
    have n1 := H2.out.2.2.2.1
    have n2 := H2.out.2.2.2.2.1
    have l1 := H2.out.2.1.lt
    have l2 := H2.out.2.2.1.lt
    have hC3 := Chg.of_below H3.out.1 (fun _ => False)
    have hbb : Below w1.heap.size w1 wr := H2.out.1.trans (H3.out.1.mono H2.out.1.size)
    refine ⟨w2.heap.size, kp, bp, j, F1, F2, G, rfl, ⟨⟨H3.out.2, rfl, rfl, rfl, H2.out.2.1.keep hC3 (fun _ _ h => h), H2.out.2.2.1.keep hC3 (fun _ _ h => h), fun h => Nat.lt_irrefl _ (l1 _ h), fun h => Nat.lt_irrefl _ (l2 _ h), H2.out.2.2.2.2.2⟩, hj2, fun h => by have := hGl _ h; omega, by omega, fun h => by have := n1 _ h; omega, fun h => by have := n2 _ h; omega, fun i hi h => by have := hGl i hi; have := n1 _ h; omega, fun i hi h => by have := hGl i hi; have := n2 _ h; omega⟩, H1.out.2.1.trans (Chg.of_below hbb _) (fun _ _ h => h), fun i hi => ?_⟩
    have hw1 := H1.out.2.1.size
    simp only [keepB, List.mem_cons, List.mem_append] at hi
    rcases hi with hi | hi | (hi | hi) | hi
    · exact .inr (by omega)
    · exact .inr (by have := H1.out.2.2.2; omega)
    · exact .inr (by have := n1 i hi; omega)
    · exact .inr (by have := n2 i hi; omega)
    · exact H1.out.2.2.1 i hi
-- ENDopen
end Go.Proofs.YtackmgmaippajaaGreat
