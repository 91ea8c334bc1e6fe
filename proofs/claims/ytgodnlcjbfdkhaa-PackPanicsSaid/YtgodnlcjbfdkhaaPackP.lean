/-
  THE LAW PackPanics OF LAYER 2, WALKED.
-/
import Derived.Test.YtgodnlcjbfdkhaaPackM
import Derived.Test.YtgodnlcjbfdkhaaOpen
import Derived.WalkLawsBesides
namespace Go.Proofs.Ytgodnlcjbfdkhaa
open Go Go.RowKit

theorem recov_panicking (p : Nat) (u : TypeId) (x old : Value) (older : List PanicEntry) (w : World) (hc : w.cell? ⟨p, 0, none⟩ = some old) (hz : w.frozen? ⟨p, 0, none⟩ = false) :
    CallsD Try.prog 30 #[.pointer (some ⟨p, 0, none⟩)] (.panicking ({ v := .iface u x, recovered := false } :: older)) w fun e u' w' =>
      e = .returned (.tuple #[]) ∧ u' = .panicking ({ v := .iface u x, recovered := true } :: older) ∧ w' = w.setCell ⟨p, 0, none⟩ (.iface u x) := by
  refine callsD_of_wpS Try.func30 rfl fun c₀ cs hu => ?_
  first | apply wpS_seq | skip
  apply wpS_region
  simp [wpOpsS, go_sem, recoverD, hu, hc, hz, Try.ntmps30, Exit.thenS, bodyPostS, results, Try.results30]
theorem recov_idle (p : Nat) (old : Value) (w : World) (hc : w.cell? ⟨p, 0, none⟩ = some old) (hz : w.frozen? ⟨p, 0, none⟩ = false) :
    CallsD Try.prog 30 #[.pointer (some ⟨p, 0, none⟩)] .returning w fun e u' w' =>
      e = .returned (.tuple #[]) ∧ u' = .returning ∧ w' = w.setCell ⟨p, 0, none⟩ .nilIface := by
  refine callsD_of_wpS Try.func30 rfl fun c₀ cs hu => ?_
  first | apply wpS_seq | skip
  apply wpS_region
  simp [wpOpsS, go_sem, recoverD, hu, hc, hz, Try.ntmps30, Exit.thenS, bodyPostS, results, Try.results30]
  cases c₀
  simp_all
theorem closure_calm (p pn pc : Nat) (w : World) (h : w.cell? ⟨pc, 0, none⟩ = some (.bool true)) :
    Calls Try.prog 31 #[.pointer (some ⟨p, 0, none⟩), .pointer (some ⟨pc, 0, none⟩), .pointer (some ⟨pn, 0, none⟩)] w fun e w' => e = .returned (.tuple #[]) ∧ w' = w := by
  go_enter Try.func31, Try.ntmps31
  go_wp2
  go_end0
  exact ⟨rfl, rfl⟩
theorem closure_panics (p pn pc : Nat) (n : Int) (w : World) (h : w.cell? ⟨pc, 0, none⟩ = some (.bool false)) (hn : w.cell? ⟨pn, 0, none⟩ = some (.int .i64 n)) :
    Calls Try.prog 31 #[.pointer (some ⟨p, 0, none⟩), .pointer (some ⟨pc, 0, none⟩), .pointer (some ⟨pn, 0, none⟩)] w fun e w' => e = .panicked [{ v := .iface 3 (.int .i64 n), recovered := false }] ∧ w' = w := by
  go_enter Try.func31, Try.ntmps31
  go_wp2
  exact ⟨rfl, rfl, rfl⟩
/-- What 'caught' has laid ahead of the read: the number, the flag, the result. -/
abbrev caughtWorld (w : World) (n : Int) (b : Bool) : World := ((w.alloc (.cells #[.int .i64 n] 3)).alloc (.cells #[.bool b] 4)).alloc (.cells #[.nilIface] 20)
theorem caughtWorld_size (w : World) (n : Int) (b : Bool) : (caughtWorld w n b).heap.size = w.heap.size + 3 := by rw [size_alloc, size_alloc, size_alloc]
theorem caughtWorld_below (w : World) (n : Int) (b : Bool) : Below w.heap.size w (caughtWorld w n b) :=
  (((Below.refl _ w).alloc (Nat.le_refl _) _).alloc (by rw [size_alloc]; omega) _).alloc (by rw [size_alloc, size_alloc]; omega) _
theorem caughtWorld_n (w : World) (n : Int) (b : Bool) : (caughtWorld w n b).heap[w.heap.size]? = some (.cells #[.int .i64 n] 3 (0, 0)) := heap_new (heap_new (heap_top _ _))
theorem caughtWorld_c (w : World) (n : Int) (b : Bool) : (caughtWorld w n b).heap[w.heap.size + 1]? = some (.cells #[.bool b] 4 (0, 0)) := by
  have := heap_top (w.alloc (.cells #[.int .i64 n] 3)) (.cells #[.bool b] 4)
  rw [size_alloc] at this
  exact heap_new this
theorem caughtWorld_r (w : World) (n : Int) (b : Bool) : (caughtWorld w n b).heap[w.heap.size + 2]? = some (.cells #[.nilIface] 20 (0, 0)) := by
  have := heap_top ((w.alloc (.cells #[.int .i64 n] 3)).alloc (.cells #[.bool b] 4)) (.cells #[.nilIface] 20)
  rw [size_alloc, size_alloc] at this
  exact this
theorem calm_by (w : World) (n : Int) (D : Option Nat) (bs : List UInt8) : ReadBy 31 #[.pointer (some ⟨w.heap.size + 1, 0, none⟩), .pointer (some ⟨w.heap.size, 0, none⟩)] (caughtWorld w n true) D bs (fun _ => False) (fun _ => True)
    (fun e w2 => e = .returned (.tuple #[]) ∧ RdrAt w2 ((caughtWorld w n true).heap.size + 1) D bs) := by
  refine ⟨fun _ _ => rfl, fun _ h => h.elim, fun w1 hb hr => ?_, fun _ _ _ _ _ => trivial⟩
  refine (closure_calm _ w.heap.size (w.heap.size + 1) w1 ?_).mono ?_
  · have := (Chg.of_below hb (fun _ => False)).heap (caughtWorld_c w n true) (fun h => h)
    rw [heap_cell this]; rfl
  · rintro e w2 ⟨rfl, rfl⟩
    exact ⟨⟨rfl, hr⟩, Chg.refl _ _, trivial⟩
theorem panics_by (w : World) (n : Int) (D : Option Nat) (bs : List UInt8) : ReadBy 31 #[.pointer (some ⟨w.heap.size + 1, 0, none⟩), .pointer (some ⟨w.heap.size, 0, none⟩)] (caughtWorld w n false) D bs (fun _ => False) (fun _ => True)
    (fun e _ => e = .panicked [{ v := .iface 3 (.int .i64 n), recovered := false }]) := by
  refine ⟨fun _ _ => rfl, fun _ h => h.elim, fun w1 hb hr => ?_, fun _ _ _ _ _ => trivial⟩
  refine (closure_panics _ w.heap.size (w.heap.size + 1) n w1 ?_ ?_).mono ?_
  · have := (Chg.of_below hb (fun _ => False)).heap (caughtWorld_c w n false) (fun h => h)
    rw [heap_cell this]; rfl
  · have := (Chg.of_below hb (fun _ => False)).heap (caughtWorld_n w n false) (fun h => h)
    rw [heap_cell this]; rfl
  · rintro e w2 ⟨rfl, rfl⟩
    exact ⟨rfl, Chg.refl _ _, trivial⟩
theorem caught_calm (ao : Option Addr) (n c : Nat) (bs : List UInt8) (x : Int) (w : World) (hb : Bts w ao bs) (hl : bs.length = n) (hnc : n ≤ c) (hm : c ≤ maxLen) (code : Int) (hcode : code = if bs = [] then 0 else 5) :
    Calls Try.prog 11 #[.slice ao n c, .int .i64 x, .bool true] w fun e w' => e = .returned (.tuple #[.nilIface, .int .i64 code]) ∧ Below w.heap.size w w' := by
  have hmf : ∀ (fn : Fn) (first cap : Array Value) (w : World), (Instr.makeFunc fn first cap).run Try.prog w = .ok (.func fn first cap) w := fun _ _ _ _ => rfl
  have HR := Lib.hid (read_ret hcode (by unfold maxLen at hm; omega) (hb.below (caughtWorld_below w x true)) hl hnc hm (calm_by w x _ bs))
  have HC := Lib.hid (caughtWorld_r w x true)
  have HW := Lib.hid (caughtWorld_below w x true)
  clear hcode hb
  go_enter_defers Try.func11, Try.ntmps11
  go_wp2_with (go_at_call 17; (with_reducible refine HR.out.mono ?_); rintro e w1 ⟨rfl, hg, -⟩; have hx := hg.heap HC.out (fun h => h); have hx1 := heap_cell hx 0; simp at hx1; have hx2 := heap_frozen hx 0; have HG := Lib.hid (And.intro hx hg); clear hx hg)
  refine leaves_cons (f := 30) (args := #[.pointer (some ⟨w.heap.size + 2, 0, none⟩)]) (by simp) (by simp [go_sem]) ?_
  obtain ⟨hx, hg⟩ := HG.out
  have hy := heap_set hx 0 .nilIface
  refine (recov_idle (w.heap.size + 2) .nilIface _ ?_ ?_).mono ?_
  · rw [heap_cell hy]; rfl
  · exact heap_frozen hy 0
  rintro e u' w2 ⟨rfl, rfl, rfl⟩
  have hz := heap_set hy 0 .nilIface
  have hz1 := heap_cell hz 0
  simp at hz1
  have hsz := caughtWorld_size w x true
  have hB : Below w.heap.size w w1 := (HW.out).trans (hg.below (by omega) (fun _ h => h.elim))
  simp [Leaves, settle, results, Try.results11, go_sem, hz1]
  exact (hB.setCell (by simp <;> omega) _).setCell (by simp <;> omega) _
theorem caught_panics (ao : Option Addr) (n c : Nat) (bs : List UInt8) (x : Int) (w : World) (hb : Bts w ao bs) (hl : bs.length = n) (hnc : n ≤ c) (hm : c ≤ maxLen) :
    Calls Try.prog 11 #[.slice ao n c, .int .i64 x, .bool false] w fun e w' => e = .returned (.tuple #[.iface 3 (.int .i64 x), .int .i64 0]) ∧ Below w.heap.size w w' := by
  have hmf : ∀ (fn : Fn) (first cap : Array Value) (w : World), (Instr.makeFunc fn first cap).run Try.prog w = .ok (.func fn first cap) w := fun _ _ _ _ => rfl
  have HR := Lib.hid (read_panics (hb.below (caughtWorld_below w x false)) hl hnc hm (panics_by w x _ bs))
  have HC := Lib.hid (caughtWorld_r w x false)
  have HW := Lib.hid (caughtWorld_below w x false)
  clear hb
  go_enter_defers Try.func11, Try.ntmps11
  go_wp2_with (go_at_call 17; (with_reducible refine HR.out.mono ?_); rintro e w1 ⟨rfl, hg, -⟩; have hx := hg.heap HC.out (fun h => h); have HG := Lib.hid (And.intro hx hg); clear hx hg)
  refine leaves_cons (f := 30) (args := #[.pointer (some ⟨w.heap.size + 2, 0, none⟩)]) (by simp) (by simp [go_sem]) ?_
  obtain ⟨hx, hg⟩ := HG.out
  refine (recov_panicking (w.heap.size + 2) 3 (.int .i64 x) .nilIface _ _ ?_ ?_).mono ?_
  · rw [heap_cell hx]; rfl
  · exact heap_frozen hx 0
  rintro e u' w2 ⟨rfl, rfl, rfl⟩
  have hz := heap_set hx 0 (.iface 3 (.int .i64 x))
  have hz1 := heap_cell hz 0
  simp at hz1
  have hsz := caughtWorld_size w x false
  have hB : Below w.heap.size w w1 := (HW.out).trans (hg.below (by omega) (fun _ h => h.elim))
  simp [Leaves, settle, results, Try.results11, go_sem, hz1]
  exact hB.setCell (by simp <;> omega) _
/-! ### the law -/
theorem is_int (W : World) (v : Value) : (Instr.typeAssert (.iface 3 v) 20 3 true).run Try.prog W = .ok (.tuple #[v, .bool true]) W := by kernel_rfl
theorem nil_nil (W : World) : (binOp .eql 20 .nilIface .nilIface).run Try.prog W = .ok (.bool true) W := by kernel_rfl
theorem packPanics_any (ao : Option Addr) (c n : Nat) (bs : List UInt8) (x : Int) (b : Bool) (w : World) (hl : bs.length = n) (hb : Bts w ao bs) (hnc : n ≤ c) (hm : c ≤ maxLen) (hx : -9223372036854775808 ≤ x ∧ x ≤ 9223372036854775807) :
    Calls Try.prog 3 #[.slice ao n c, .int .i64 x, .bool b] w fun e w' => e = .returned (.bool true) ∧ Below w.heap.size w w' := by
  have hn := nil_nil
  have hi := is_int
  have hni := not_nil
  have hn64 : n ≤ 9223372036854775807 := by unfold maxLen at hm; omega
  have HB := Lib.hid (And.intro hb (And.intro hl (And.intro hnc hm)))
  clear hb hnc hm
  cases b with
  | true =>
    by_cases hz : n = 0
    · subst hz
      have HCO := Lib.hid (show (0 : Int) = if bs = [] then 0 else 5 by rw [if_pos (List.length_eq_zero_iff.1 hl)])
      clear hl
      go_enter Try.func3, Try.ntmps3
      go_wp2_with (first
        | (go_at_call 10; (with_reducible refine (awake _).mono ?_); rintro e w1 ⟨rfl, hw⟩; have HW := Lib.hid hw; clear hw)
        | (go_at_call 11; (with_reducible refine (caught_calm ao 0 c bs x _ (HB.out.1.below HW.out) HB.out.2.1 HB.out.2.2.1 HB.out.2.2.2 0 HCO.out).mono ?_); rintro e w2 ⟨rfl, hw⟩; have HV := Lib.hid hw; clear hw))
      go_ret
      exact ⟨rfl, HW.out.trans (HV.out.mono HW.out.size)⟩
    · have HCO := Lib.hid (show (5 : Int) = if bs = [] then 0 else 5 by rw [if_neg (fun h => hz (by rw [← hl, h]; rfl))])
      clear hl
      go_enter Try.func3, Try.ntmps3
      go_wp2_with (first
        | (go_at_call 10; (with_reducible refine (awake _).mono ?_); rintro e w1 ⟨rfl, hw⟩; have HW := Lib.hid hw; clear hw)
        | (go_at_call 11; (with_reducible refine (caught_calm ao n c bs x _ (HB.out.1.below HW.out) HB.out.2.1 HB.out.2.2.1 HB.out.2.2.2 5 HCO.out).mono ?_); rintro e w2 ⟨rfl, hw⟩; have HV := Lib.hid hw; clear hw))
      go_ret
      refine ⟨?_, HW.out.trans (HV.out.mono HW.out.size)⟩
      have h0 : ((n : Int) == 0) = false := by simp [hz]
      simp [h0]
  | false =>
    · clear hl
      go_enter Try.func3, Try.ntmps3
      go_wp2_with (first
        | (go_at_call 10; (with_reducible refine (awake _).mono ?_); rintro e w1 ⟨rfl, hw⟩; have HW := Lib.hid hw; clear hw)
        | (go_at_call 11; (with_reducible refine (caught_panics ao n c bs x _ (HB.out.1.below HW.out) HB.out.2.1 HB.out.2.2.1 HB.out.2.2.2).mono ?_); rintro e w2 ⟨rfl, hw⟩; have HV := Lib.hid hw; clear hw))
      go_ret
      exact ⟨rfl, HW.out.trans (HV.out.mono HW.out.size)⟩
theorem packPanics_in (W : World) (base : Nat) (v0 v1 v2 : Value) (k0 : Value.okWide Try.prog W .any base 22 v0) (k1 : Value.okWide Try.prog W .any base 3 v1) (k2 : Value.okWide Try.prog W .any base 4 v2)
    (r0 : Rd Try.prog W 22 v0.cells.toList) (r1 : Rd Try.prog W 3 v1.cells.toList) (_r2 : Rd Try.prog W 4 v2.cells.toList) :
    Calls Try.prog 3 #[v0, v1, v2] W fun e w' => e = .returned (.bool true) ∧ Below W.heap.size W w' := by
  obtain ⟨ao, bs, cap, rfl, hb, hc, hm⟩ := in_bytesC Try.underlying22 Try.underlying5 (by kernel_rfl) k0 r0
  obtain ⟨x, rfl, h1, h2⟩ := in_i64 Try.underlying3 k1 r1
  obtain ⟨b, rfl⟩ := in_bool Try.underlying4 k2
  exact packPanics_any ao cap _ bs x b W rfl hb hc hm ⟨h1, h2⟩
end Go.Proofs.Ytgodnlcjbfdkhaa
