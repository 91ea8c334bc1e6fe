/-
  LAYER 6: SameNode of alike ones; nil trees; the law TreeNil.
-/
import Derived.Test.YtebhbfjnobcckaaTreeE
namespace Go.Proofs.Ytebhbfjnobcckaa
open Go Go.RowKit

set_option maxHeartbeats 2000000 in
theorem same_node (key : ByteArray) (body : List UInt8) (n : Nat) (ver own : Int) (ao bo : Option Addr) (c d : Nat) (w : World) (ha : Bts w ao body) (hb : Bts w bo body) (hn : body.length = n) :
    Calls Try.prog 22 #[.agg #[.string key, .slice ao n c, .int .u64 ver, .int .u64 own], .agg #[.string key, .slice bo n d, .int .u64 ver, .int .u64 own]] w fun r w' => r = .returned (.bool true) ∧ Below w.heap.size w w' := by
  have h1 := heap_new (o := .cells #[.string key, .slice bo n d, .int .u64 ver, .int .u64 own] 32) (heap_top w (.cells #[.string key, .slice ao n c, .int .u64 ver, .int .u64 own] 32))
  have h2 := heap_top (w.alloc (.cells #[.string key, .slice ao n c, .int .u64 ver, .int .u64 own] 32)) (.cells #[.string key, .slice bo n d, .int .u64 ver, .int .u64 own] 32)
  rw [size_alloc] at h2
  have HB := Lib.hid (((Below.refl w.heap.size w).alloc (Nat.le_refl _) (.cells #[.string key, .slice ao n c, .int .u64 ver, .int .u64 own] 32)).alloc (by rw [size_alloc]; omega) (.cells #[.string key, .slice bo n d, .int .u64 ver, .int .u64 own] 32))
  have ka := ha.below HB.out
  have kb := hb.below HB.out
  go_enter Try.func22, Try.ntmps22
  go_upto_region 1 with fail
  generalize (w.alloc (.cells #[.string key, .slice ao n c, .int .u64 ver, .int .u64 own] 32)).alloc (.cells #[.string key, .slice bo n d, .int .u64 ver, .int .u64 own] 32) = W at *
  obtain ⟨a0, a1, a2, a3, _⟩ := cells4 h1
  obtain ⟨b0, b1, b2, b3, _⟩ := cells4 h2
  have kx := conv_bytes W Try.underlying27 Try.underlying5 Try.underlying9 ao n c body hn ka
  have ky := conv_bytes W Try.underlying27 Try.underlying5 Try.underlying9 bo n d body hn kb
  have ks : ((strOf body).toList == (strOf body).toList) = true := by simp
  clear h1 h2 ka kb ha hb hn
  go_wp2
  go_ret
  exact ⟨rfl, HB.out⟩
theorem put_nil (k : ByteArray) (v u x : Value) (w : World) : Calls Try.prog 12 #[.pointer none, .string k, v, u, x] w fun r w' => r = .returned (.tuple #[.int .u64 0, .int .i64 1]) ∧ w = w' := by
  go_enter Try.func12, Try.ntmps12
  go_wp2
  go_ret2
  exact ⟨rfl, rfl⟩
set_option maxHeartbeats 1000000 in
theorem get_nil (k : ByteArray) (w : World) : Calls Try.prog 13 #[.pointer none, .string k] w fun r w' => r = .returned (.tuple #[.agg #[.string ⟨#[]⟩, .slice none 0 0, .int .u64 0, .int .u64 0], .bool false]) ∧ Below w.heap.size w w' := by
  have HA := Lib.hid ((Below.refl _ w).alloc (Nat.le_refl _) (.cells #[.string ⟨#[]⟩, .slice none 0 0, .int .u64 0, .int .u64 0] 32))
  have hT := heap_top w (.cells #[.string ⟨#[]⟩, .slice none 0 0, .int .u64 0, .int .u64 0] 32)
  obtain ⟨c0, c1, c2, c3, _⟩ := cells4 hT
  clear hT
  go_enter Try.func13, Try.ntmps13
  go_wp2
  generalize (w.alloc (.cells #[.string ⟨#[]⟩, .slice none 0 0, .int .u64 0, .int .u64 0] 32)) = W5 at *
  refine bodyPost_ret (v := .tuple #[.agg #[.string ⟨#[]⟩, .slice none 0 0, .int .u64 0, .int .u64 0], .bool false]) (w := W5) ?_ rfl ?_
  · simp [results, Try.results13, go_sem, c0, c1, c2, c3]
  · exact ⟨rfl, HA.out⟩
theorem drop_nil (u : Int) (w : World) : Calls Try.prog 19 #[.pointer none, .int .u64 u] w fun r w' => r = .returned (.tuple #[]) ∧ Below w.heap.size w w' := by
  go_enter Try.func19, Try.ntmps19
  go_wp2
  go_end0
  exact ⟨rfl, (Below.refl _ w).alloc (Nat.le_refl _) _⟩
theorem delete_nil (k : ByteArray) (u : Value) (w : World) : Calls Try.prog 23 #[.pointer none, .string k, u] w fun r w' => r = .returned (.int .i64 1) ∧ w = w' := by
  go_enter Try.func23, Try.ntmps23
  go_wp2
  go_ret
  exact ⟨rfl, rfl⟩
theorem list_nil (k : ByteArray) (w : World) : Calls Try.prog 17 #[.pointer none, .string k] w fun r w' => r = .returned (.slice none 0 0) ∧ w = w' := by
  go_enter Try.func17, Try.ntmps17
  go_wp2
  go_ret
  exact ⟨rfl, rfl⟩
set_option maxHeartbeats 2000000 in
set_option maxRecDepth 100000 in
theorem treeNil_any (kind : Int) (key : ByteArray) (vo : Option Addr) (n c : Nat) (want own : Int) (w : World) :
    Calls Try.prog 6 #[.agg #[.int .u8 kind, .string key, .slice vo n c, .int .u64 want, .int .u64 own]] w fun e w' => e = .returned (.bool true) ∧ Below w.heap.size w w' := by
  have hT := heap_top w (.cells #[.int .u8 kind, .string key, .slice vo n c, .int .u64 want, .int .u64 own] 52)
  have HB := Lib.hid ((Below.refl _ w).alloc (Nat.le_refl _) (.cells #[.int .u8 kind, .string key, .slice vo n c, .int .u64 want, .int .u64 own] 52))
  have cells : ∀ w', Below (w.alloc (.cells #[.int .u8 kind, .string key, .slice vo n c, .int .u64 want, .int .u64 own] 52)).heap.size (w.alloc (.cells #[.int .u8 kind, .string key, .slice vo n c, .int .u64 want, .int .u64 own] 52)) w' → w'.cell? ⟨w.heap.size, 1, none⟩ = some (.string key) ∧ w'.cell? ⟨w.heap.size, 2, none⟩ = some (.slice vo n c) ∧ w'.cell? ⟨w.heap.size, 3, none⟩ = some (.int .u64 want) ∧ w'.cell? ⟨w.heap.size, 4, none⟩ = some (.int .u64 own) := by
    intro w' hb
    have h := (Chg.of_below hb (fun _ => False)).heap hT (fun h => h)
    have h1 := heap_cell h 1
    have h2 := heap_cell h 2
    have h3 := heap_cell h 3
    have h4 := heap_cell h 4
    simp at h1 h2 h3 h4
    exact ⟨h1, h2, h3, h4⟩
  have HC := Lib.hid cells
  clear cells hT
  go_enter Try.func6, Try.ntmps6
  go_wp2_with fail
  (with_reducible refine (awake _).mono ?_)
  rintro e1 w1 ⟨rfl, hb1⟩
  obtain ⟨q1, q2, q3, q4⟩ := HC.out w1 hb1
  have H1 := Lib.hid hb1
  clear hb1
  go_wp2_with (go_at_call 12; (with_reducible refine (put_nil _ _ _ _ _).mono ?_); rintro e2 w2 ⟨rfl, rfl⟩)
  (with_reducible refine (get_nil _ _).mono ?_)
  rintro e3 w3 ⟨rfl, hb3⟩
  have hb3 := H1.out.trans (hb3.mono H1.out.size)
  have hb4 := hb3.alloc hb3.size (.cells #[.string ⟨#[]⟩, .slice none 0 0, .int .u64 0, .int .u64 0] 32)
  obtain ⟨q1, q2, q3, q4⟩ := HC.out _ hb4
  have hN := heap_top w3 (.cells #[.string ⟨#[]⟩, .slice none 0 0, .int .u64 0, .int .u64 0] 32)
  have H3 := Lib.hid (And.intro hb4 hN)
  clear hb3 hb4 hN
  go_wp2_with fail
  (with_reducible refine (drop_nil _ _).mono ?_)
  rintro e4 w4 ⟨rfl, hb5⟩
  have hN5 := (Chg.of_below hb5 (fun _ => False)).heap H3.out.2 (fun h => h)
  obtain ⟨y0, y1, y2, y3, _⟩ := cells4 hN5
  have hb6 := H3.out.1.trans (hb5.mono H3.out.1.size)
  obtain ⟨q1, q2, q3, q4⟩ := HC.out _ hb6
  have H4 := Lib.hid hb6
  clear hb5 hb6 hN5
  go_wp2_with fail
  (with_reducible refine (same_node ⟨#[]⟩ [] 0 0 0 none none 0 0 _ (Bts.nil _ _) (Bts.nil _ _) rfl).mono ?_)
  rintro e5 w5 ⟨rfl, hb7⟩
  have hb8 := H4.out.trans (hb7.mono H4.out.size)
  obtain ⟨q1, q2, q3, q4⟩ := HC.out _ hb8
  have H5 := Lib.hid hb8
  clear hb7 hb8
  go_wp2_with (first
    | (go_at_call 23; (with_reducible refine (delete_nil _ _ _).mono ?_); rintro e6 w6 ⟨rfl, rfl⟩)
    | (go_at_call 17; (with_reducible refine (list_nil _ _).mono ?_); rintro e7 w7 ⟨rfl, rfl⟩))
  go_ret
  exact ⟨rfl, HB.out.trans (H5.out.mono HB.out.size)⟩
theorem act_rd {w : World} {cs : List Value} (h : Rd Try.prog w 52 cs) : ∃ (k : UInt8) (key : ByteArray) (vo : Option Addr) (bs : List UInt8) (c a b : Nat), cs = [.int .u8 (k.toNat : Int), .string key, .slice vo bs.length c, .int .u64 (a : Int), .int .u64 (b : Int)] ∧ key.size ≤ maxLen ∧ Bts w vo bs ∧ bs.length ≤ c ∧ c ≤ maxLen ∧ a < 18446744073709551616 ∧ b < 18446744073709551616 := by
  have hu := Try.underlying52
  obtain ⟨c0, c1, c2, c3, c4, rfl⟩ := list5 ((h.struct hu).1.trans (by kernel_rfl))
  obtain ⟨k, e0⟩ := (h.field hu 0 rfl (n := 1) (by kernel_rfl)).u8 Try.underlying5
  obtain ⟨key, e1, h1⟩ := (h.field hu 1 rfl (n := 1) (by kernel_rfl)).string Try.underlying9
  obtain ⟨vo, bs, c, e2, h2, h2', _, hb⟩ := (h.field hu 2 rfl (n := 1) (by kernel_rfl)).bytes Try.underlying27 Try.underlying5 (by kernel_rfl)
  obtain ⟨a, e3, h3⟩ := (h.field hu 3 rfl (n := 1) (by kernel_rfl)).u64 Try.underlying26
  obtain ⟨b, e4, h4⟩ := (h.field hu 4 rfl (n := 1) (by kernel_rfl)).u64 Try.underlying26
  simp at e0 e1 e2 e3 e4
  subst e0 e1 e2 e3 e4
  exact ⟨k, key, vo, bs, c, a, b, rfl, h1, hb, h2, h2', h3, h4⟩
theorem treeNil_in (W : World) (base : Nat) (v0 : Value) (k0 : Value.okWide Try.prog W .any base 52 v0) (r0 : Rd Try.prog W 52 v0.cells.toList) :
    Calls Try.prog 6 #[v0] W fun e w' => e = .returned (.bool true) ∧ Below W.heap.size W w' := by
  obtain ⟨cs, rfl, hcs⟩ := in_struct Try.underlying52 k0
  rw [hcs] at r0
  obtain ⟨k, key, vo, bs, c, a, b, rfl, _⟩ := act_rd r0
  exact treeNil_any _ _ _ _ _ _ _ W
end Go.Proofs.Ytebhbfjnobcckaa
