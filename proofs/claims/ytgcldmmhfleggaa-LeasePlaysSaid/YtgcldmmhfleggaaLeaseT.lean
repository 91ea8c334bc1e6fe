/-
  LAYER 7: the document's book: Open, the walk.
-/
import Derived.Test.YtgcldmmhfleggaaLeaseO
namespace Go.Proofs.Ytgcldmmhfleggaa
open Go Go.RowKit

set_option maxHeartbeats 40000000 in
set_option maxRecDepth 100000 in
theorem ropen_any (p last now life : Nat) (l : List Sess) (F : List Nat) (w : World) (h : RBookAt w p last l F) (hl : l.length < 16) (hlast : last < 18446744073709551615) (hnow : now < 18446744073709551616) (hlf : 1 ≤ life ∧ life ≤ 1099511627776) :
    Calls Try.prog 18 #[.pointer (some ⟨p, 0, none⟩), .int .u64 (now : Int), .int .u64 (life : Int)] w fun e w' => e = .returned (.tuple #[.int .u64 ((last + 1 : Nat) : Int), .int .i64 0]) ∧ RWrote w w' p (last + 1) (l ++ [⟨last + 1, endsOf now life, life⟩]) F := by
  obtain ⟨lo, n, cap, h1, h2, h3, hF⟩ := h
  have hn := fl_own_len el_e h2
  obtain ⟨z0, z1, z2⟩ := cells2 h1
  have e1 := IntWalk.u64_in ((last : Int) + 1) (by omega)
  have hn16 : ((n : Int) == 16) = false := by simp; omega
  have hle : ((last : Int) == 18446744073709551615) = false := by simp; omega
  have h0 : ((life : Int) == 0) = false := by simp; omega
  have h9 : ¬ 1099511627776 < (life : Int) := by omega
  have hpl := heap_lt h1
  have HX := Lib.hid (And.intro h1 (And.intro h2 (And.intro h3 (And.intro hF hn))))
  clear h1 h2 h3 hF hn
  go_enter Try.func18, Try.ntmps18
  go_wp2
  have hC0 := Chg.one w p 0 (.int .u64 ((last : Int) + 1))
  have hp1 := heap_set HX.out.1 0 (.int .u64 ((last : Int) + 1))
  have ho1 := HX.out.2.1.keep hC0 (fun a ha e => HX.out.2.2.1 (mem_blk.2 ⟨a, ha, e⟩))
  generalize w.setCell ⟨p, 0, none⟩ (.int .u64 ((last : Int) + 1)) = wa at *
  have hp1' : wa.heap[p]? = some (.cells #[.int .u64 ((last : Int) + 1), .slice lo n cap] 68 (0, 0)) := hp1
  have HE := Lib.hid (fun w => rsum_any now life w hnow (by omega))
  obtain ⟨y0, y1, y2⟩ := cells2 hp1'
  have d0 : wa.drew.cell? ⟨p, 0, none⟩ = some (.int .u64 ((last : Int) + 1)) := y0
  have d1 : wa.drew.cell? ⟨p, 1, none⟩ = some (.slice lo n cap) := y1
  have a0 : (wa.alloc (.cells #[] 48)).cell? ⟨p, 0, none⟩ = some (.int .u64 ((last : Int) + 1)) := alloc_cell y0
  have a1 : (wa.alloc (.cells #[] 48)).cell? ⟨p, 1, none⟩ = some (.slice lo n cap) := alloc_cell y1
  have b1 : (wa.alloc (.cells #[.int .u64 ((last : Int) + 1), .int .u64 (endsOf now life : Int), .int .u64 (life : Int)] 48)).cell? ⟨p, 1, none⟩ = some (.slice lo n cap) := alloc_cell y1
  have ab1 : ((wa.alloc (.cells #[] 48)).alloc (.cells #[.int .u64 ((last : Int) + 1), .int .u64 (endsOf now life : Int), .int .u64 (life : Int)] 48)).cell? ⟨p, 1, none⟩ = some (.slice lo n cap) := alloc_cell a1
  have ba1 : ((wa.alloc (.cells #[.int .u64 ((last : Int) + 1), .int .u64 (endsOf now life : Int), .int .u64 (life : Int)] 48)).alloc (.cells #[] 48)).cell? ⟨p, 1, none⟩ = some (.slice lo n cap) := alloc_cell b1
  have hA := (Chg.refl (fun _ => False) wa)
  have HW := Lib.hid (fun (A B : Obj) => And.intro (ho1.row.below ((Below.refl _ wa).alloc (Nat.le_refl _) A)) ((ho1.row.below ((Below.refl _ wa).alloc (Nat.le_refl _) A)).below ((Below.refl _ (wa.alloc A)).alloc (Nat.le_refl _) B)))
  have HP := Lib.hid (fun (w2 : World) (hb : Below wa.heap.size wa w2) => cells2 ((Chg.of_below hb (fun _ => False)).heap hp1' (fun h => h)))
  have HPH := Lib.hid (fun (w2 : World) (hb : Below wa.heap.size wa w2) => (Chg.of_below hb (fun _ => False)).heap hp1' (fun h => h))
  have H1 := Lib.hid (And.intro hC0 ho1.len)
  have h17 : 0 + n ≤ maxLen := by have := HX.out.2.2.2.2; unfold maxLen; omega
  have h17b : (0 + n) * 24 ≤ 140737488355328 := by have := HX.out.2.2.2.2; omega
  have h18 : n + 1 ≤ maxLen := by have := HX.out.2.2.2.2; unfold maxLen; omega
  have h18b : (n + 1) * 24 ≤ 140737488355328 := by have := HX.out.2.2.2.2; omega
  have HZ := Lib.hid (And.intro h17 (And.intro h17b (And.intro h18 h18b)))
  clear hp1 hp1' ho1 hC0 hA y0 y1 z0 z1 z2 h17 h17b h18 h18b hl hlast hnow hlf hn16 hle h0 h9 e1
  have HLN := Lib.hid (And.intro (show (Sess.mk (last + 1) (endsOf now life) life).cells.length = 1 * 3 from rfl) (el_e.one ⟨last + 1, endsOf now life, life⟩))
  have HOA := Lib.hid (And.intro (Own.alloc0 wa 3 48 (0, 0)).drew (And.intro (fun B : Obj => ((Own.alloc0 wa 3 48 (0, 0)).keep ((Chg.refl (fun _ => False) _).alloc B) (fun _ _ h => h)).drew) (fun B : Obj => show Own ((wa.alloc B).alloc (.cells #[] 48)).drew 3 (some ⟨wa.heap.size + 1, 0, none⟩) 0 0 [] by rw [← size_alloc wa B]; exact (Own.alloc0 (wa.alloc B) 3 48 (0, 0)).drew)))
  go_region_law (first
    | (refine step_append' rfl (.tmp 36) (.tmp 40) el_s rfl (c := cap) ?hs ?hx HOA.out.1 H1.out.2 (HW.out _ (.cells #[] 0)).1.drew (fl_one el_e l) HZ.out.1 HZ.out.2.1 ?_; (case hs => simp [Act.eval, Act.put]); (case hx => simp [Act.eval, Act.put]); intro xo xc w2 hx hch _ hx2; simp only [Nat.zero_add]; have hm := mid_a hx hch hx2; obtain ⟨v0, v1, v2⟩ := HP.out _ hm.below; have H2 := Lib.hid (And.intro (hm.below.alloc hm.below.size (.cells #[.int .u64 ((last : Int) + 1), .int .u64 (endsOf now life : Int), .int .u64 (life : Int)] 48)) (And.intro hm.new (And.intro (hm.own.keep ((Chg.refl (fun _ => False) w2).alloc (.cells #[.int .u64 ((last : Int) + 1), .int .u64 (endsOf now life : Int), .int .u64 (life : Int)] 48)) (fun _ _ h => h)) (Row.alloc w2 #[.int .u64 ((last : Int) + 1), .int .u64 (endsOf now life : Int), .int .u64 (life : Int)] 48 (0, 0))))); clear hx hch hx2 hm)
    | (refine step_append' rfl (.tmp 36) (.tmp 40) el_s rfl (c := cap) ?hs ?hx (HOA.out.2.1 _) H1.out.2 (HW.out _ _).2.drew (fl_one el_e l) HZ.out.1 HZ.out.2.1 ?_; (case hs => simp [Act.eval, Act.put]); (case hx => simp [Act.eval, Act.put]); intro xo xc w2 hx hch _ hx2; simp only [Nat.zero_add]; have hm := mid_b hx hch hx2; obtain ⟨v0, v1, v2⟩ := HP.out _ hm.1.below; have H2 := Lib.hid (And.intro hm.1.below (And.intro hm.1.new (And.intro hm.1.own hm.2))); clear hx hch hx2 hm)
    | (refine step_append' rfl (.tmp 36) (.tmp 40) el_s rfl (c := cap) ?hs ?hx (HOA.out.2.2 _) H1.out.2 (HW.out _ _).2.drew (fl_one el_e l) HZ.out.1 HZ.out.2.1 ?_; (case hs => simp [Act.eval, Act.put]); (case hx => simp [Act.eval, Act.put]); intro xo xc w2 hx hch _ hx2; simp only [Nat.zero_add]; have hm := mid_c hx hch hx2; obtain ⟨v0, v1, v2⟩ := HP.out _ hm.1.below; have H2 := Lib.hid (And.intro hm.1.below (And.intro hm.1.new (And.intro hm.1.own hm.2))); clear hx hch hx2 hm)
    | (refine step_append' rfl (.tmp 41) (.tmp 51) el_s rfl (c := 1) ?hs ?hx H2.out.2.2.1 HLN.out.1 H2.out.2.2.2 HLN.out.2 HZ.out.2.2.1 HZ.out.2.2.2 ?_; (case hs => simp [Act.eval, Act.put]); (case hx => simp [Act.eval, Act.put]); intro yo yc w3 hx hch _ hx2; have hm := mid_next (s := ⟨last + 1, endsOf now life, life⟩) H2.out.1 H2.out.2.1 hx hch hx2; obtain ⟨q0, q1, q2⟩ := HP.out _ hm.below; have H3 := Lib.hid hm; clear hx hch hx2 hm)
    | (go_simp; go_at_call 30; (with_reducible refine (HE.out _).mono ?_); rintro e1 w1 ⟨rfl, rfl⟩))
  all_goals go_wp2
  all_goals (
    go_ret2
    refine ⟨by push_cast; rfl, ?_⟩
    exact rend (by rw [HX.out.2.2.2.1]; simp) (H1.out.1.to (S' := (· ∈ F)) (fun k h => by rw [HX.out.2.2.2.1, h]; simp)) (HPH.out _ H3.out.below) H3.out.below H3.out.own (fun a ha => Nat.le_trans H1.out.1.size (H3.out.new a ha)) hpl)
end Go.Proofs.Ytgcldmmhfleggaa
