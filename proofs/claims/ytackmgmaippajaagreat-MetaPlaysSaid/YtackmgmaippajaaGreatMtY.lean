/-
  LAYER 8: a record's command is done.
-/
import Derived.Test.YtackmgmaippajaaGreatMtW
namespace Go.Proofs.YtackmgmaippajaaGreat
open Go Go.RowKit

/-- A read whose closure throws something: it hands back an error. -/
theorem read_threw {f : Nat} {caps : Array Value} {S : Nat → Prop} {G : World → Prop} {ao : Option Addr} {n c : Nat} {bs : List UInt8} {w : World} (hb : Bts w ao bs) (hl : bs.length = n) (hnc : n ≤ c) (hm : c ≤ maxLen)
    (h : ReadBy f caps w (ao.map (·.block)) bs S G fun e _ => ∃ code : Int, code ≠ 0 ∧ e = .panicked (thrown code)) :
    Calls Tryz.prog 68 #[.slice ao n c, .func (.func f) #[] caps] w fun e w' => ∃ code : Int, code ≠ 0 ∧ e = .returned (.int .i64 code) ∧ Chg S w w' ∧ G w' := by
  have hmf : ∀ (fn : Fn) (first cap : Array Value) (w : World), (Instr.makeFunc fn first cap).run Tryz.prog w = .ok (.func fn first cap) w := fun _ _ _ _ => rfl
  have HR := Lib.hid (readWorld_rdr w hb hl hnc hm)
  have HC := Lib.hid (readWorld_cell w (.slice ao n c))
  have HZ := Lib.hid (readWorld_size w (.slice ao n c))
  have HW := Lib.hid (readWorld_below w (.slice ao n c))
  have hcf := h.fn
  have HH := Lib.hid h
  clear h hb hm
  go_enter_defers Tryz.func68, Tryz.ntmps68
  go_wp2_with ((with_reducible refine (HH.out.by' _ HW.out HR.out).mono ?_); rintro e w1 ⟨⟨code, hc0, rfl⟩, hg, hq⟩; have HG := Lib.hid (And.intro hg hq); clear hg hq)
  have hlt : w.heap.size < (readWorld w (.slice ao n c)).heap.size := by rw [HZ.out]; omega
  have h1 : w1.heap[w.heap.size]? = some (.cells #[.int .i64 0] 51 (0, 0)) := HG.out.1.heap HC.out (by rintro (h | h); exact Nat.lt_irrefl _ (HH.out.old _ h); omega)
  refine leaves_cons (f := 106) (args := #[.pointer (some ⟨w.heap.size, 0, none⟩)]) (by simp) (by simp [go_sem]) ?_
  refine (catch_thrown w.heap.size code (.int .i64 0) [] w1 ?_ ?_ (heap_lt h1)).mono ?_
  · rw [heap_cell h1]; rfl
  · exact heap_frozen h1 0
  rintro e u' w2 ⟨rfl, rfl, hg2, hc2⟩
  have hcc : w2.cell? ⟨w.heap.size, 0, none⟩ = some (.int .i64 code) := hc2
  have hrd : Chg S w w2 := by
    refine ((Chg.of_below HW.out S).trans HG.out.1 ?_).trans hg2 ?_
    · rintro i hi (h | h)
      · exact h
      · omega
    · intro i hi h; omega
  have hq2 : G w2 := HH.out.keep _ _ hg2 (heap_lt h1) HG.out.2
  simp [Leaves, settle, results, Tryz.results68, go_sem, hcc]
  exact ⟨code, hc0, rfl, hrd, hq2⟩
end Go.Proofs.YtackmgmaippajaaGreat
