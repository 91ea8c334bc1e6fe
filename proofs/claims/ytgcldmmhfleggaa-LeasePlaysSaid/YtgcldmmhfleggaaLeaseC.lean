/-
  LAYER 7: New, Open.
-/
import Derived.Test.YtgcldmmhfleggaaLeaseB
namespace Go.Proofs.Ytgcldmmhfleggaa
open Go Go.RowKit

theorem clone_nil (c : Nat) (w : World) : Calls Try.prog 24 #[.slice none 0 c] w fun e w' => e = .returned (.slice none 0 0) ∧ w = w' := by
  have q := Lib.run_eql_slice_nil (P := Try.prog) w 43 48 none 0 c 0 0 Try.underlying43
  go_enter Try.func24, Try.ntmps24
  go_wp2
  go_ret
  exact ⟨rfl, rfl⟩
theorem new_any (last : Nat) (c : Nat) (w : World) (hl : last < 18446744073709551616) : Calls Try.prog 9 #[.int .u64 (last : Int), .slice none 0 c] w fun e w' => e = .returned (.tuple #[.pointer (some ⟨w.heap.size, 0, none⟩), .bool true]) ∧ Below w.heap.size w w' ∧ BookAt w' w.heap.size last [] [w.heap.size] := by
  go_enter Try.func9, Try.ntmps9
  go_wp2
  go_loopg [13] 0 (fun g v wr => g = 0 ∧ v = .int .i64 0 ∧ wr = w)
  case atStart => exact ⟨rfl, rfl, rfl⟩
  case round =>
    obtain ⟨rfl, rfl, rfl⟩ := hrel
    go_wp2_with (go_at_call 24; (with_reducible refine (clone_nil c _).mono ?_); rintro e1 w1 ⟨rfl, rfl⟩)
    go_ret2
    exact ⟨rfl, (Below.refl _ _).alloc (Nat.le_refl _) _, none, 0, 0, heap_top _ _, Own.nil' _ _, by simp [blk], by simp [blk]⟩
theorem open_end {w wa w2 : World} {p last n cap xc x1 x2 : Nat} {lo xo : Option Addr} {l : List Sess} {F : List Nat} {o : Obj} (h2 : Own w 3 lo n cap (l.flatMap Sess.cells)) (h3 : p ∉ blk lo) (hF : F = p :: blk lo) (hpl : p < w.heap.size) (hC : Chg (· = p) w wa)
    (hp : w2.heap[p]? = some (.cells #[.int .u64 ((last : Int) + 1), .slice lo n cap] 62 (0, 0))) (hx : Own w2 3 xo (n + 1) xc (l.flatMap Sess.cells ++ [.int .u64 ((last : Int) + 1), .int .u64 (x1 : Int), .int .u64 (x2 : Int)])) (hch : Chg (fun k => ∃ a, lo = some a ∧ a.block = k) (wa.alloc o).drew w2) (hx2 : ∀ a', xo = some a' → lo = some a' ∨ (wa.alloc o).drew.heap.size ≤ a'.block) :
    Wrote w (w2.setCell ⟨p, 1, none⟩ (.slice xo (n + 1) xc)) p (last + 1) (l ++ [⟨last + 1, x1, x2⟩]) F := by
  have hpx : p ∉ blk xo := by
    intro h
    obtain ⟨a, ha, e⟩ := mem_blk.1 h
    rcases hx2 a ha with h | h
    · exact h3 (mem_blk.2 ⟨a, h, e⟩)
    · have h4 := hC.size
      have h5 : wa.heap.size + 1 ≤ a.block := by rw [← size_alloc wa o]; exact h
      omega
  have hw2 : Chg (· ∈ F) w w2 := by
    refine ((hC.to (S' := (· ∈ F)) (fun k h => by rw [hF, h]; simp)).alloc o).drew.trans hch (fun k _ h => ?_)
    rw [hF]
    exact List.mem_cons_of_mem _ (mem_blk.2 h)
  refine ⟨p :: blk xo, ⟨xo, n + 1, xc, heap_set hp 1 _, ?_, hpx, rfl⟩, hw2.set (by rw [hF]; simp) 1 _, ?_⟩
  · have := hx.keep (Chg.one w2 p 1 (.slice xo (n + 1) xc)) (fun a ha e => hpx (mem_blk.2 ⟨a, ha, e⟩))
    rw [List.flatMap_append]
    simpa [Sess.cells] using this
  · intro k hk
    rcases List.mem_cons.1 hk with rfl | hk
    · exact .inl (by rw [hF]; simp)
    · obtain ⟨a, ha, rfl⟩ := mem_blk.1 hk
      rcases hx2 a ha with h | h
      · exact .inl (by rw [hF]; exact List.mem_cons_of_mem _ (mem_blk.2 ⟨a, h, rfl⟩))
      · have h5 : wa.heap.size + 1 ≤ a.block := by rw [← size_alloc wa o]; exact h
        have h4 := hC.size
        exact .inr (by omega)
theorem keep_last {w : World} {p : Nat} {v u : Value} (h : w.cell? ⟨p, 0, none⟩ = some v) : (w.setCell ⟨p, 1, none⟩ u).cell? ⟨p, 0, none⟩ = some v := by
  rw [World.cell?_setCell_other (h := by intro q; simp at q)]; exact h
set_option maxHeartbeats 8000000 in
set_option maxRecDepth 100000 in
theorem open_any (p last now life : Nat) (l : List Sess) (F : List Nat) (w : World) (h : BookAt w p last l F) (hl : l.length < 16) (hlast : last < 18446744073709551615) (hnow : now < 18446744073709551616) (hlf : 1 ≤ life ∧ life ≤ 1099511627776) :
    Calls Try.prog 10 #[.pointer (some ⟨p, 0, none⟩), .int .u64 (now : Int), .int .u64 (life : Int)] w fun e w' => e = .returned (.tuple #[.int .u64 ((last + 1 : Nat) : Int), .int .i64 0]) ∧ Wrote w w' p (last + 1) (l ++ [⟨last + 1, endsOf now life, life⟩]) F := by
  obtain ⟨lo, n, cap, h1, h2, h3, hF⟩ := h
  have hn := fl_own_len el_e h2
  obtain ⟨z0, z1, z2⟩ := cells2 h1
  have e1 := IntWalk.u64_in ((last : Int) + 1) (by omega)
  have hn16 : (n : Int) < 16 := by omega
  have hle : ((last : Int) == 18446744073709551615) = false := by simp; omega
  have HX := Lib.hid (And.intro h1 (And.intro h2 (And.intro h3 (And.intro hF hn))))
  clear h1 h2 h3 hF hn
  obtain ⟨hlf1, hlf2⟩ := hlf
  go_enter Try.func10, Try.ntmps10
  go_wp2
  have hwb : w.heap.size ≤ (w.setCell ⟨p, 0, none⟩ (.int .u64 ((last : Int) + 1))).heap.size := (Chg.one w p 0 _).size
  have hC0 := Chg.one w p 0 (.int .u64 ((last : Int) + 1))
  have hp1 := heap_set HX.out.1 0 (.int .u64 ((last : Int) + 1))
  have ho1 := HX.out.2.1.keep hC0 (fun a ha e => HX.out.2.2.1 (mem_blk.2 ⟨a, ha, e⟩))
  generalize w.setCell ⟨p, 0, none⟩ (.int .u64 ((last : Int) + 1)) = wa at *
  have hp1' : wa.heap[p]? = some (.cells #[.int .u64 ((last : Int) + 1), .slice lo n cap] 62 (0, 0)) := hp1
  have HE := Lib.hid (fun w => ends_any now life w hnow (by omega))
  obtain ⟨y0, y1, y2⟩ := cells2 hp1'
  have d0 : wa.drew.cell? ⟨p, 0, none⟩ = some (.int .u64 ((last : Int) + 1)) := y0
  have d1 : wa.drew.cell? ⟨p, 1, none⟩ = some (.slice lo n cap) := y1
  have hpB := heap_new (w := wa) (o := .cells #[.int .u64 ((last : Int) + 1), .int .u64 (endsOf now life : Int), .int .u64 (life : Int)] 48) hp1'
  obtain ⟨b0, b1, b2⟩ := cells2 hpB
  have hR := Row.alloc wa #[.int .u64 ((last : Int) + 1), .int .u64 (endsOf now life : Int), .int .u64 (life : Int)] 48 (0, 0)
  have hoB := ho1.keep ((Chg.refl (fun _ => False) wa).alloc (.cells #[.int .u64 ((last : Int) + 1), .int .u64 (endsOf now life : Int), .int .u64 (life : Int)] 48)) (fun _ _ h => h)
  have H1 := Lib.hid (And.intro hpB (And.intro hR.drew (And.intro hoB.drew (And.intro hC0 (And.intro hp1' ho1)))))
  clear hp1 hp1' hpB hR hoB hC0 ho1
  have h17 : n + 1 ≤ maxLen := by unfold maxLen; omega
  have h17b : (n + 1) * 24 ≤ 140737488355328 := by omega
  have HZ := Lib.hid (And.intro hl (And.intro hlast (And.intro hnow (And.intro hlf1 (And.intro hlf2 (And.intro h17 h17b))))))
  clear hl hlast hnow hlf1 hlf2 hn16 hle e1 hwb y0 y1 z0 z1 z2
  clear h17 h17b
  have HLN := Lib.hid (show (#[Value.int .u64 ((last : Int) + 1), .int .u64 (endsOf now life : Int), .int .u64 (life : Int)] : Array Value).toList.length = 1 * 3 from rfl)
  have HON := Lib.hid (show ∀ u ∈ (#[Value.int .u64 ((last : Int) + 1), .int .u64 (endsOf now life : Int), .int .u64 (life : Int)] : Array Value).toList, u.oneCell' = true from el_e.one ⟨last + 1, endsOf now life, life⟩)
  go_region_law (first
    | (refine step_append' rfl (.tmp 43) (.tmp 53) el_s rfl (c := 1) ?hs ?hx H1.out.2.2.1 HLN.out H1.out.2.1 HON.out HZ.out.2.2.2.2.2.1 HZ.out.2.2.2.2.2.2 ?_; (case hs => simp [Act.eval, Act.put]); (case hx => simp [Act.eval, Act.put]); intro xo xc w2 hx hch _ hx2; have hp2 := hch.undrew.heap H1.out.1 (fun ⟨a, ha, e⟩ => HX.out.2.2.1 (mem_blk.2 ⟨a, ha, e⟩)); obtain ⟨v0, v1, v2⟩ := cells2 hp2; have HEn := Lib.hid (And.intro hx (And.intro hch (And.intro hx2 hp2))); clear hx hch hx2 hp2)
    | (go_simp; go_at_call 25; (with_reducible refine (HE.out _).mono ?_); rintro e1 w1 ⟨rfl, rfl⟩))
  all_goals go_wp2
  all_goals (
    go_ret2
    refine ⟨by push_cast; rfl, ?_⟩
    exact open_end HX.out.2.1 HX.out.2.2.1 HX.out.2.2.2.1 (heap_lt HX.out.1) H1.out.2.2.2.1 HEn.out.2.2.2 HEn.out.1 HEn.out.2.1 HEn.out.2.2.1)
end Go.Proofs.Ytgcldmmhfleggaa
