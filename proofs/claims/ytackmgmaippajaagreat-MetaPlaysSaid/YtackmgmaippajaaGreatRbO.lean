/-
  LAYER 8: the document's book inside its State (printed by m7rb.py): Open.
-/
import Derived.Test.YtackmgmaippajaaGreatRb
namespace Go.Proofs.YtackmgmaippajaaGreat.Ls
open Go Go.RowKit

/-- A list made anew behind the world wa. -/
structure RMid (wa w2 : World) (l : List Sess) (n : Nat) (xo : Option Addr) (xc : Nat) : Prop where
  below : Below wa.heap.size wa w2
  own : Own w2 3 xo n xc (l.flatMap Sess.cells)
  new : ∀ a, xo = some a → wa.heap.size ≤ a.block
theorem mid_a {wa w2 : World} {A : Obj} {l : List Sess} {n xc : Nat} {xo : Option Addr} (hx : Own w2 3 xo (0 + n) xc ([] ++ l.flatMap Sess.cells)) (hch : Chg (fun k => ∃ a, some (⟨wa.heap.size, 0, none⟩ : Addr) = some a ∧ a.block = k) (wa.alloc A).drew w2)
    (hx2 : ∀ a', xo = some a' → some (⟨wa.heap.size, 0, none⟩ : Addr) = some a' ∨ (wa.alloc A).drew.heap.size ≤ a'.block) : RMid wa w2 l n xo xc :=
  ⟨chg_new (Below.refl _ _) hch.undrew, by rw [Nat.zero_add, List.nil_append] at hx; exact hx, new_blk (Below.refl _ wa) hx2⟩
theorem mid_b {wa w2 : World} {A : Obj} {cs : Array Value} {t : TypeId} {fz : Nat × Nat} {l : List Sess} {n xc : Nat} {xo : Option Addr} (hx : Own w2 3 xo (0 + n) xc ([] ++ l.flatMap Sess.cells)) (hch : Chg (fun k => ∃ a, some (⟨wa.heap.size, 0, none⟩ : Addr) = some a ∧ a.block = k) ((wa.alloc A).alloc (.cells cs t fz)).drew w2)
    (hx2 : ∀ a', xo = some a' → some (⟨wa.heap.size, 0, none⟩ : Addr) = some a' ∨ ((wa.alloc A).alloc (.cells cs t fz)).drew.heap.size ≤ a'.block) : RMid wa w2 l n xo xc ∧ Row w2 (some ⟨wa.heap.size + 1, 0, none⟩) cs.toList := by
  have hb1 := (Below.refl wa.heap.size wa).alloc (Nat.le_refl _) A
  have hb2 := hb1.alloc hb1.size (.cells cs t fz)
  have hr := Row.alloc (wa.alloc A) cs t fz
  rw [size_alloc] at hr
  refine ⟨⟨hb2.trans (hch.undrew.below hb2.size (fun k ⟨a, ha, e⟩ => ?_)), by rw [Nat.zero_add, List.nil_append] at hx; exact hx, fun a ha => ?_⟩, hch.undrew.row hr (fun a ha ⟨b, hb, e⟩ => ?_)⟩
  · cases ha; rw [← e]; exact Nat.le_refl _
  · rcases hx2 a ha with h | h
    · cases h; exact Nat.le_refl _
    · exact Nat.le_trans hb2.size h
  · cases ha; cases hb; simp at e
theorem mid_c {wa w2 : World} {A : Obj} {cs : Array Value} {t : TypeId} {fz : Nat × Nat} {l : List Sess} {n xc : Nat} {xo : Option Addr} (hx : Own w2 3 xo (0 + n) xc ([] ++ l.flatMap Sess.cells)) (hch : Chg (fun k => ∃ a, some (⟨wa.heap.size + 1, 0, none⟩ : Addr) = some a ∧ a.block = k) ((wa.alloc (.cells cs t fz)).alloc A).drew w2)
    (hx2 : ∀ a', xo = some a' → some (⟨wa.heap.size + 1, 0, none⟩ : Addr) = some a' ∨ ((wa.alloc (.cells cs t fz)).alloc A).drew.heap.size ≤ a'.block) : RMid wa w2 l n xo xc ∧ Row w2 (some ⟨wa.heap.size, 0, none⟩) cs.toList := by
  have hb1 := (Below.refl wa.heap.size wa).alloc (Nat.le_refl _) (.cells cs t fz)
  have hb2 := hb1.alloc hb1.size A
  have hr := (Row.alloc wa cs t fz).below ((Below.refl _ (wa.alloc (.cells cs t fz))).alloc (Nat.le_refl _) A)
  refine ⟨⟨hb2.trans (hch.undrew.below hb2.size (fun k ⟨a, ha, e⟩ => ?_)), by rw [Nat.zero_add, List.nil_append] at hx; exact hx, fun a ha => ?_⟩, hch.undrew.row hr (fun a ha ⟨b, hb, e⟩ => ?_)⟩
  · cases ha; rw [← e]; exact Nat.le_succ _
  · rcases hx2 a ha with h | h
    · cases h; exact Nat.le_succ _
    · exact Nat.le_trans hb2.size h
  · cases ha; cases hb; simp at e
theorem mid_next {wa w2 w3 : World} {l : List Sess} {s : Sess} {n yc : Nat} {xo yo : Option Addr} (hb : Below wa.heap.size wa w2) (hn : ∀ a, xo = some a → wa.heap.size ≤ a.block) (hy : Own w3 3 yo (n + 1) yc (l.flatMap Sess.cells ++ s.cells)) (hch : Chg (fun k => ∃ a, xo = some a ∧ a.block = k) w2 w3)
    (hx2 : ∀ a', yo = some a' → xo = some a' ∨ w2.heap.size ≤ a'.block) : RMid wa w3 (l ++ [s]) (n + 1) yo yc := by
  refine ⟨hb.trans (hch.below hb.size (fun k ⟨a, ha, e⟩ => e ▸ hn a ha)), by rw [List.flatMap_append, List.flatMap_cons, List.flatMap_nil, List.append_nil]; exact hy, fun a ha => ?_⟩
  rcases hx2 a ha with h | h
  · exact hn a h
  · exact Nat.le_trans hb.size h
theorem ropen_time (p now life : Nat) (w : World) (hlf : life = 0 ∨ 1099511627776 < life) :
    Calls Tryz.prog 31 #[.pointer (some ⟨p, 2, none⟩), .int .u64 (now : Int), .int .u64 (life : Int)] w fun e w' => e = .returned (.tuple #[.int .u64 0, .int .i64 63]) ∧ w = w' := by
  rcases hlf with rfl | hlf
  · go_enter Tryz.func31, Tryz.ntmps31
    go_wp2
    go_ret2
    exact ⟨rfl, rfl⟩
  · have h0 : ((life : Int) == 0) = false := by simp; omega
    have h1 : 1099511627776 < (life : Int) := by omega
    clear hlf
    go_enter Tryz.func31, Tryz.ntmps31
    go_wp2
    go_ret2
    exact ⟨rfl, rfl⟩
theorem ropen_many (cs : Array Value) (t : TypeId) (p last now life : Nat) (l : List Sess) (F : List Nat) (w : World) (h : RBookAt w p cs t last l F) (hlf : 1 ≤ life ∧ life ≤ 1099511627776) (hm : l.length = 16 ∨ l.length < 16 ∧ last = 18446744073709551615) :
    Calls Tryz.prog 31 #[.pointer (some ⟨p, 2, none⟩), .int .u64 (now : Int), .int .u64 (life : Int)] w fun e w' => e = .returned (.tuple #[.int .u64 0, .int .i64 14]) ∧ w = w' := by
  obtain ⟨lo, n, cap, h1, h2, h3, hF⟩ := h
  have hn := fl_own_len el_e h2
  obtain ⟨z0, z1, z2⟩ := cellsB h1
  have h0 : ((life : Int) == 0) = false := by simp; omega
  have h9 : ¬ 1099511627776 < (life : Int) := by omega
  clear h1 h2 h3 hF hlf
  rcases hm with hm | ⟨hm, rfl⟩
  · obtain rfl : n = 16 := by omega
    clear hn hm
    go_enter Tryz.func31, Tryz.ntmps31
    go_wp2
    go_ret2
    exact ⟨rfl, rfl⟩
  · have hn16 : ((n : Int) == 16) = false := by simp; omega
    clear hn hm
    go_enter Tryz.func31, Tryz.ntmps31
    go_wp2
    go_ret2
    exact ⟨rfl, rfl⟩

set_option maxHeartbeats 40000000 in
set_option maxRecDepth 100000 in
theorem ropen_any (cs : Array Value) (t : TypeId) (p last now life : Nat) (l : List Sess) (F : List Nat) (w : World) (h : RBookAt w p cs t last l F) (hl : l.length < 16) (hlast : last < 18446744073709551615) (hnow : now < 18446744073709551616) (hlf : 1 ≤ life ∧ life ≤ 1099511627776) :
    Calls Tryz.prog 31 #[.pointer (some ⟨p, 2, none⟩), .int .u64 (now : Int), .int .u64 (life : Int)] w fun e w' => e = .returned (.tuple #[.int .u64 ((last + 1 : Nat) : Int), .int .i64 0]) ∧ RWrote w w' p cs t (last + 1) (l ++ [⟨last + 1, endsOf now life, life⟩]) F := by
  obtain ⟨lo, n, cap, h1, h2, h3, hF⟩ := h
  have hn := fl_own_len el_e h2
  obtain ⟨z0, z1, z2⟩ := cellsB h1
  have e1 := IntWalk.u64_in ((last : Int) + 1) (by omega)
  have hn16 : ((n : Int) == 16) = false := by simp; omega
  have hle : ((last : Int) == 18446744073709551615) = false := by simp; omega
  have h0 : ((life : Int) == 0) = false := by simp; omega
  have h9 : ¬ 1099511627776 < (life : Int) := by omega
  have hpl := heap_lt h1.1
  have HX := Lib.hid (And.intro h1 (And.intro h2 (And.intro h3 (And.intro hF hn))))
  clear h1 h2 h3 hF hn
  go_enter Tryz.func31, Tryz.ntmps31
  go_wp2
  have hC0 := Chg.one w p 2 (.int .u64 ((last : Int) + 1))
  have hp1 : BkC (w.setCell ⟨p, 2, none⟩ (.int .u64 ((last : Int) + 1))) p (cs.setIfInBounds 2 (.int .u64 ((last : Int) + 1))) t (last + 1) (.slice lo n cap) := ⟨heap_set HX.out.1.heap 2 _, by have := (Array.getElem?_eq_some_iff.1 HX.out.1.at2).1; simp [this], by have := HX.out.1.at3; simpa using this⟩
  have ho1 := HX.out.2.1.keep hC0 (fun a ha e => HX.out.2.2.1 (mem_blk.2 ⟨a, ha, e⟩))
  generalize w.setCell ⟨p, 2, none⟩ (.int .u64 ((last : Int) + 1)) = wa at *
  have hp1' := hp1
  have HE := Lib.hid (fun w => rsum_any now life w hnow (by omega))
  obtain ⟨y0, y1, y2⟩ := (show wa.cell? ⟨p, 2, none⟩ = some (.int .u64 ((last : Int) + 1)) ∧ wa.cell? ⟨p, 3, none⟩ = some (.slice lo n cap) ∧ ∀ i, wa.frozen? ⟨p, i, none⟩ = false by have := cellsB hp1'; push_cast at this; exact this)
  have d0 : wa.drew.cell? ⟨p, 2, none⟩ = some (.int .u64 ((last : Int) + 1)) := y0
  have d1 : wa.drew.cell? ⟨p, 3, none⟩ = some (.slice lo n cap) := y1
  have a0 : (wa.alloc (.cells #[] 96)).cell? ⟨p, 2, none⟩ = some (.int .u64 ((last : Int) + 1)) := alloc_cell y0
  have a1 : (wa.alloc (.cells #[] 96)).cell? ⟨p, 3, none⟩ = some (.slice lo n cap) := alloc_cell y1
  have b1 : (wa.alloc (.cells #[.int .u64 ((last : Int) + 1), .int .u64 (endsOf now life : Int), .int .u64 (life : Int)] 96)).cell? ⟨p, 3, none⟩ = some (.slice lo n cap) := alloc_cell y1
  have ab1 : ((wa.alloc (.cells #[] 96)).alloc (.cells #[.int .u64 ((last : Int) + 1), .int .u64 (endsOf now life : Int), .int .u64 (life : Int)] 96)).cell? ⟨p, 3, none⟩ = some (.slice lo n cap) := alloc_cell a1
  have ba1 : ((wa.alloc (.cells #[.int .u64 ((last : Int) + 1), .int .u64 (endsOf now life : Int), .int .u64 (life : Int)] 96)).alloc (.cells #[] 96)).cell? ⟨p, 3, none⟩ = some (.slice lo n cap) := alloc_cell b1
  have hA := (Chg.refl (fun _ => False) wa)
  have HW := Lib.hid (fun (A B : Obj) => And.intro (ho1.row.below ((Below.refl _ wa).alloc (Nat.le_refl _) A)) ((ho1.row.below ((Below.refl _ wa).alloc (Nat.le_refl _) A)).below ((Below.refl _ (wa.alloc A)).alloc (Nat.le_refl _) B)))
  have HP := Lib.hid (fun (w2 : World) (hb : Below wa.heap.size wa w2) => (show w2.cell? ⟨p, 2, none⟩ = some (.int .u64 ((last : Int) + 1)) ∧ w2.cell? ⟨p, 3, none⟩ = some (.slice lo n cap) ∧ ∀ i, w2.frozen? ⟨p, i, none⟩ = false by have := cellsB ((Chg.of_below hb (fun _ => False)).bk hp1' (fun h => h)); push_cast at this; exact this))
  have HPH := Lib.hid (fun (w2 : World) (hb : Below wa.heap.size wa w2) => (Chg.of_below hb (fun _ => False)).bk hp1' (fun h => h))
  have H1 := Lib.hid (And.intro hC0 ho1.len)
  have h17 : 0 + n ≤ maxLen := by have := HX.out.2.2.2.2; unfold maxLen; omega
  have h17b : (0 + n) * 24 ≤ 140737488355328 := by have := HX.out.2.2.2.2; omega
  have h18 : n + 1 ≤ maxLen := by have := HX.out.2.2.2.2; unfold maxLen; omega
  have h18b : (n + 1) * 24 ≤ 140737488355328 := by have := HX.out.2.2.2.2; omega
  have HZ := Lib.hid (And.intro h17 (And.intro h17b (And.intro h18 h18b)))
  clear hp1 hp1' ho1 hC0 hA y0 y1 z0 z1 z2 h17 h17b h18 h18b hl hlast hnow hlf hn16 hle h0 h9 e1
  have HLN := Lib.hid (And.intro (show (Sess.mk (last + 1) (endsOf now life) life).cells.length = 1 * 3 from rfl) (el_e.one ⟨last + 1, endsOf now life, life⟩))
  have HOA := Lib.hid (And.intro (Own.alloc0 wa 3 96 (0, 0)).drew (And.intro (fun B : Obj => ((Own.alloc0 wa 3 96 (0, 0)).keep ((Chg.refl (fun _ => False) _).alloc B) (fun _ _ h => h)).drew) (fun B : Obj => show Own ((wa.alloc B).alloc (.cells #[] 96)).drew 3 (some ⟨wa.heap.size + 1, 0, none⟩) 0 0 [] by rw [← size_alloc wa B]; exact (Own.alloc0 (wa.alloc B) 3 96 (0, 0)).drew)))
  go_region_law (first
    | (refine step_append' rfl (.tmp 36) (.tmp 40) el_s rfl (c := cap) ?hs ?hx HOA.out.1 H1.out.2 (HW.out _ (.cells #[] 0)).1.drew (fl_one el_e l) HZ.out.1 HZ.out.2.1 ?_; (case hs => simp [Act.eval, Act.put]); (case hx => simp [Act.eval, Act.put]); intro xo xc w2 hx hch _ hx2; simp only [Nat.zero_add]; have hm := mid_a hx hch hx2; obtain ⟨v0, v1, v2⟩ := HP.out _ hm.below; have H2 := Lib.hid (And.intro (hm.below.alloc hm.below.size (.cells #[.int .u64 ((last : Int) + 1), .int .u64 (endsOf now life : Int), .int .u64 (life : Int)] 96)) (And.intro hm.new (And.intro (hm.own.keep ((Chg.refl (fun _ => False) w2).alloc (.cells #[.int .u64 ((last : Int) + 1), .int .u64 (endsOf now life : Int), .int .u64 (life : Int)] 96)) (fun _ _ h => h)) (Row.alloc w2 #[.int .u64 ((last : Int) + 1), .int .u64 (endsOf now life : Int), .int .u64 (life : Int)] 96 (0, 0))))); clear hx hch hx2 hm)
    | (refine step_append' rfl (.tmp 36) (.tmp 40) el_s rfl (c := cap) ?hs ?hx (HOA.out.2.1 _) H1.out.2 (HW.out _ _).2.drew (fl_one el_e l) HZ.out.1 HZ.out.2.1 ?_; (case hs => simp [Act.eval, Act.put]); (case hx => simp [Act.eval, Act.put]); intro xo xc w2 hx hch _ hx2; simp only [Nat.zero_add]; have hm := mid_b hx hch hx2; obtain ⟨v0, v1, v2⟩ := HP.out _ hm.1.below; have H2 := Lib.hid (And.intro hm.1.below (And.intro hm.1.new (And.intro hm.1.own hm.2))); clear hx hch hx2 hm)
    | (refine step_append' rfl (.tmp 36) (.tmp 40) el_s rfl (c := cap) ?hs ?hx (HOA.out.2.2 _) H1.out.2 (HW.out _ _).2.drew (fl_one el_e l) HZ.out.1 HZ.out.2.1 ?_; (case hs => simp [Act.eval, Act.put]); (case hx => simp [Act.eval, Act.put]); intro xo xc w2 hx hch _ hx2; simp only [Nat.zero_add]; have hm := mid_c hx hch hx2; obtain ⟨v0, v1, v2⟩ := HP.out _ hm.1.below; have H2 := Lib.hid (And.intro hm.1.below (And.intro hm.1.new (And.intro hm.1.own hm.2))); clear hx hch hx2 hm)
    | (refine step_append' rfl (.tmp 41) (.tmp 51) el_s rfl (c := 1) ?hs ?hx H2.out.2.2.1 HLN.out.1 H2.out.2.2.2 HLN.out.2 HZ.out.2.2.1 HZ.out.2.2.2 ?_; (case hs => simp [Act.eval, Act.put]); (case hx => simp [Act.eval, Act.put]); intro yo yc w3 hx hch _ hx2; have hm := mid_next (s := ⟨last + 1, endsOf now life, life⟩) H2.out.1 H2.out.2.1 hx hch hx2; obtain ⟨q0, q1, q2⟩ := HP.out _ hm.below; have H3 := Lib.hid hm; clear hx hch hx2 hm)
    | (go_simp; go_at_call 57; (with_reducible refine (HE.out _).mono ?_); rintro e1 w1 ⟨rfl, rfl⟩))
  all_goals go_wp2
  all_goals (
    go_ret2
    refine ⟨by push_cast; rfl, ?_⟩
    exact rend (last' := last + 1) (by rw [HX.out.2.2.2.1]; simp) H1.out.1 (by have := HPH.out _ H3.out.below; push_cast at this ⊢; exact this) H3.out.below H3.out.own (fun a ha => Nat.le_trans H1.out.1.size (H3.out.new a ha)) hpl)

theorem ropen_all (cs : Array Value) (t : TypeId) (p last now life : Nat) (l : List Sess) (F : List Nat) (w : World) (h : RBookAt w p cs t last l F) (hl : l.length ≤ 16) (hlast : last < 18446744073709551616) (hnow : now < 18446744073709551616) :
    Calls Tryz.prog 31 #[.pointer (some ⟨p, 2, none⟩), .int .u64 (now : Int), .int .u64 (life : Int)] w fun e w' => e = .returned (.tuple #[.int .u64 ((openL last l now life).1.1 : Int), .int .i64 (openL last l now life).1.2]) ∧ RWrote w w' p cs t (openL last l now life).2.1 (openL last l now life).2.2 F := by
  unfold openL
  by_cases h1 : life = 0 ∨ 1099511627776 < life
  · simp only [if_pos h1]
    refine (ropen_time p now life w h1).mono ?_
    rintro e w' ⟨rfl, rfl⟩
    exact ⟨rfl, .same h (Below.refl _ _)⟩
  · simp only [if_neg h1]
    by_cases h2 : l.length < 16 ∧ last < 18446744073709551615
    · simp only [if_pos h2]
      exact ropen_any cs t p last now life l F w h h2.1 h2.2 hnow (by omega)
    · simp only [if_neg h2]
      refine (ropen_many cs t p last now life l F w h (by omega) (by omega)).mono ?_
      rintro e w' ⟨rfl, rfl⟩
      exact ⟨rfl, .same h (Below.refl _ _)⟩
theorem rclose_all (cs : Array Value) (t : TypeId) (p last id : Nat) (l : List Sess) (F : List Nat) (w : World) (h : RBookAt w p cs t last l F) (hl : l.length ≤ 4096) :
    Calls Tryz.prog 33 #[.pointer (some ⟨p, 2, none⟩), .int .u64 (id : Int)] w fun r w' => r = .returned (.int .i64 (closeL l id).2) ∧ RWrote w w' p cs t last (closeL l id).1 F := by
  rcases who l id with h1 | ⟨i, e, he, hid, hno⟩
  · rw [closeL_none h1]
    refine (rclose_none cs t p last id l F w h (by omega) h1).mono ?_
    rintro e w' ⟨rfl, rfl⟩
    exact ⟨rfl, .same h (Below.refl _ _)⟩
  · rw [closeL_some he hid hno]
    exact rclose_some cs t p last id i e l F w h hl he hid hno
end Go.Proofs.YtackmgmaippajaaGreat.Ls
