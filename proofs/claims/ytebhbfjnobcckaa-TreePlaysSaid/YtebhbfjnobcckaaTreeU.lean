/-
  LAYER 6: the document's Put.
-/
import Derived.Test.YtebhbfjnobcckaaTreeS
namespace Go.Proofs.Ytebhbfjnobcckaa
open Go Go.RowKit

/-! ### refused -/
set_option maxHeartbeats 1000000 in
theorem rput_name (q : Nat) (key : ByteArray) (vo : Option Addr) (m c : Nat) (a b : Value) (R : Int) (w : World) (h : key.size = 0 ∨ 64 < key.size) (hat : Calls Try.prog 32 #[.pointer (some ⟨q, 0, none⟩), .string key] w fun r w' => r = .returned (.int .i64 R) ∧ w = w') :
    Calls Try.prog 18 #[.pointer (some ⟨q, 0, none⟩), .string key, .slice vo m c, a, b] w fun r w' => r = .returned (.tuple #[.int .u64 0, .int .i64 10]) ∧ w = w' := by
  have HAT := Lib.hid hat
  clear hat
  rcases h with h | h
  · have i1 : (key.size : Int) < 1 := by omega
    go_enter Try.func18, Try.ntmps18
    go_wp2_with (go_at_call 32; (with_reducible refine HAT.out.mono ?_); rintro r w2 ⟨rfl, rfl⟩)
    go_ret2
    exact ⟨rfl, rfl⟩
  · have i1 : ¬ (key.size : Int) < 1 := by omega
    have i2 : (64 : Int) < (key.size : Int) := by omega
    go_enter Try.func18, Try.ntmps18
    go_wp2_with (go_at_call 32; (with_reducible refine HAT.out.mono ?_); rintro r w2 ⟨rfl, rfl⟩)
    go_ret2
    exact ⟨rfl, rfl⟩
set_option maxHeartbeats 1000000 in
theorem rput_long (q : Nat) (key : ByteArray) (vo : Option Addr) (m c : Nat) (a b : Value) (R : Int) (w : World) (h0 : key.size ≠ 0) (h1 : key.size ≤ 64) (hm : 3840 < m) (hat : Calls Try.prog 32 #[.pointer (some ⟨q, 0, none⟩), .string key] w fun r w' => r = .returned (.int .i64 R) ∧ w = w') :
    Calls Try.prog 18 #[.pointer (some ⟨q, 0, none⟩), .string key, .slice vo m c, a, b] w fun r w' => r = .returned (.tuple #[.int .u64 0, .int .i64 3]) ∧ w = w' := by
  have HAT := Lib.hid hat
  have i1 : ¬ (key.size : Int) < 1 := by omega
  have i2 : ¬ (64 : Int) < (key.size : Int) := by omega
  have i3 : (3840 : Int) < (m : Int) := by omega
  clear hat
  go_enter Try.func18, Try.ntmps18
  go_wp2_with (go_at_call 32; (with_reducible refine HAT.out.mono ?_); rintro r w2 ⟨rfl, rfl⟩)
  go_ret2
  exact ⟨rfl, rfl⟩
set_option maxHeartbeats 1000000 in
theorem rput_exists (q : Nat) (key : ByteArray) (vo : Option Addr) (m c i : Nat) (b : Value) (w : World) (h0 : key.size ≠ 0) (h1 : key.size ≤ 64) (hm : m ≤ 3840) (hat : Calls Try.prog 32 #[.pointer (some ⟨q, 0, none⟩), .string key] w fun r w' => r = .returned (.int .i64 (i : Int)) ∧ w = w') :
    Calls Try.prog 18 #[.pointer (some ⟨q, 0, none⟩), .string key, .slice vo m c, .int .u64 0, b] w fun r w' => r = .returned (.tuple #[.int .u64 0, .int .i64 12]) ∧ w = w' := by
  have HAT := Lib.hid hat
  have i1 : ¬ (key.size : Int) < 1 := by omega
  have i2 : ¬ (64 : Int) < (key.size : Int) := by omega
  have i3 : ¬ (3840 : Int) < (m : Int) := by omega
  have i4 : (0 : Int) ≤ (i : Int) := by omega
  clear hat
  go_enter Try.func18, Try.ntmps18
  go_wp2_with (go_at_call 32; (with_reducible refine HAT.out.mono ?_); rintro r w2 ⟨rfl, rfl⟩)
  go_ret2
  exact ⟨rfl, rfl⟩
set_option maxHeartbeats 1000000 in
theorem rput_absent (q : Nat) (key : ByteArray) (vo : Option Addr) (m c want : Nat) (b : Value) (w : World) (h0 : key.size ≠ 0) (h1 : key.size ≤ 64) (hm : m ≤ 3840) (hw : want ≠ 0) (hat : Calls Try.prog 32 #[.pointer (some ⟨q, 0, none⟩), .string key] w fun r w' => r = .returned (.int .i64 (-1)) ∧ w = w') :
    Calls Try.prog 18 #[.pointer (some ⟨q, 0, none⟩), .string key, .slice vo m c, .int .u64 (want : Int), b] w fun r w' => r = .returned (.tuple #[.int .u64 0, .int .i64 11]) ∧ w = w' := by
  have HAT := Lib.hid hat
  have i1 : ¬ (key.size : Int) < 1 := by omega
  have i2 : ¬ (64 : Int) < (key.size : Int) := by omega
  have i3 : ¬ (3840 : Int) < (m : Int) := by omega
  have i4 : ((want : Int) == 0) = false := by simp; omega
  clear hat
  go_enter Try.func18, Try.ntmps18
  go_wp2_with (go_at_call 32; (with_reducible refine HAT.out.mono ?_); rintro r w2 ⟨rfl, rfl⟩)
  go_ret2
  exact ⟨rfl, rfl⟩
set_option maxHeartbeats 1000000 in
theorem rput_version (q : Nat) (rs : List Pl) (G : List Nat) (key : ByteArray) (x : Pl) (vo : Option Addr) (m c want i : Nat) (b : Value) (w : World) (h : RTreeAt w q rs G) (h0 : key.size ≠ 0) (h1 : key.size ≤ 64) (hm : m ≤ 3840) (hw : want ≠ 0) (hx : rs[i]? = some x) (hv : x.ver ≠ want) (hat : Calls Try.prog 32 #[.pointer (some ⟨q, 0, none⟩), .string key] w fun r w' => r = .returned (.int .i64 (i : Int)) ∧ w = w') :
    Calls Try.prog 18 #[.pointer (some ⟨q, 0, none⟩), .string key, .slice vo m c, .int .u64 (want : Int), b] w fun r w' => r = .returned (.tuple #[.int .u64 0, .int .i64 13]) ∧ w = w' := by
  obtain ⟨lo, n, cap, l, h⟩ := h
  have HAT := Lib.hid hat
  have i1 : ¬ (key.size : Int) < 1 := by omega
  have i2 : ¬ (64 : Int) < (key.size : Int) := by omega
  have i3 : ¬ (3840 : Int) < (m : Int) := by omega
  have i4 : ((want : Int) == 0) = false := by simp; omega
  have i5 : (0 : Int) ≤ (i : Int) := by omega
  have i5' : ¬ (i : Int) < 0 := by omega
  obtain ⟨e, he, rfl⟩ := h.got hx
  have hin : (i : Int) < (n : Int) := by have := (List.getElem?_eq_some_iff.1 he).1; have := h.len.1; omega
  obtain ⟨b', off, rfl, q0, q1, q2, q3⟩ := nd_at h.own.row he
  obtain ⟨z0, z2⟩ := cells1 h.heap
  have hve : ((e.ver : Int) == (want : Int)) = false := by have : e.ver ≠ want := hv; simp; omega
  clear hat h hx hv he
  go_enter Try.func18, Try.ntmps18
  go_wp2_with (go_at_call 32; (with_reducible refine HAT.out.mono ?_); rintro r w2 ⟨rfl, rfl⟩)
  go_ret2
  exact ⟨rfl, rfl⟩
set_option maxHeartbeats 1000000 in
theorem rput_many (q : Nat) (rs : List Pl) (G : List Nat) (key : ByteArray) (vo : Option Addr) (m c : Nat) (b : Value) (w : World) (h : RTreeAt w q rs G) (h0 : key.size ≠ 0) (h1 : key.size ≤ 64) (hm : m ≤ 3840) (h256 : 256 ≤ rs.length) (hat : Calls Try.prog 32 #[.pointer (some ⟨q, 0, none⟩), .string key] w fun r w' => r = .returned (.int .i64 (-1)) ∧ w = w') :
    Calls Try.prog 18 #[.pointer (some ⟨q, 0, none⟩), .string key, .slice vo m c, .int .u64 0, b] w fun r w' => r = .returned (.tuple #[.int .u64 0, .int .i64 14]) ∧ w = w' := by
  obtain ⟨lo, n, cap, l, h⟩ := h
  have HAT := Lib.hid hat
  have i1 : ¬ (key.size : Int) < 1 := by omega
  have i2 : ¬ (64 : Int) < (key.size : Int) := by omega
  have i3 : ¬ (3840 : Int) < (m : Int) := by omega
  have i4 : (256 : Int) ≤ (n : Int) := by have := h.len.2; omega
  obtain ⟨z0, z2⟩ := cells1 h.heap
  clear hat h
  go_enter Try.func18, Try.ntmps18
  go_wp2_with (go_at_call 32; (with_reducible refine HAT.out.mono ?_); rintro r w2 ⟨rfl, rfl⟩)
  go_ret2
  exact ⟨rfl, rfl⟩
/-! ### done -/
set_option maxHeartbeats 2000000 in
set_option maxRecDepth 100000 in
theorem rput_new (q : Nat) (rs : List Pl) (G : List Nat) (key : ByteArray) (vo : Option Addr) (m c : Nat) (val : List UInt8) (own : Nat) (w : World) (h : RTreeAt w q rs G) (h0 : key.size ≠ 0) (h1 : key.size ≤ 64) (hv : Bts w vo val) (hvl : val.length = m) (hm : m ≤ 3840) (h256 : rs.length < 256) (hat : Calls Try.prog 32 #[.pointer (some ⟨q, 0, none⟩), .string key] w fun r w' => r = .returned (.int .i64 (-1)) ∧ w = w') :
    Calls Try.prog 18 #[.pointer (some ⟨q, 0, none⟩), .string key, .slice vo m c, .int .u64 0, .int .u64 (own : Int)] w fun r w' => r = .returned (.tuple #[.int .u64 1, .int .i64 0]) ∧ RWrote w w' q (rs ++ [⟨key, val, 1, own⟩]) G := by
  obtain ⟨lo, n, cap, l, h⟩ := h
  have HAT := Lib.hid hat
  have HI := Lib.hid (And.intro h (And.intro hv (show (val.map cb).length = m * 1 by rw [List.length_map, hvl, Nat.mul_one])))
  have HL := Lib.hid (show (l.flatMap Nd.cells).length = n * 4 by rw [fl_len el_e, h.len.1])
  have hn256 : n < 256 := by have := h.len.2; omega
  have i1 : ¬ (key.size : Int) < 1 := by omega
  have i2 : ¬ (64 : Int) < (key.size : Int) := by omega
  have i3 : ¬ (3840 : Int) < (m : Int) := by omega
  have i4 : ¬ (256 : Int) ≤ (n : Int) := by omega
  obtain ⟨z0, z2⟩ := cells1 h.heap
  have hA2 := fun (W : World) (o : Obj) => (Below.refl W.heap.size W).alloc (Nat.le_refl _) o
  clear hat h hv h256
  go_enter Try.func18, Try.ntmps18
  go_upto_region 16 with (first
    | (go_at_call 32; (with_reducible refine HAT.out.mono ?_); rintro r w2 ⟨rfl, rfl⟩)
    | (at_builtin; refine wpList_append' rfl (.tmp 71) (.tmp 72) el_u8 rfl rfl rfl (Own.alloc0 _ 1 _ _) HI.out.2.2 (HI.out.2.1.below (hA2 _ _)) (one_cb val) (by unfold maxLen; omega) (by omega) ?_; intro xo xc w3 hx hch _ hx2; simp only [Nat.zero_add, List.nil_append] at hx; have H3 := Lib.hid (And.intro (chg_new (Below.refl _ _) hch) (And.intro hx (new_blk (Below.refl _ _) hx2))); clear hx hch hx2))
  obtain ⟨y0, _⟩ := cells1 ((Chg.of_below H3.out.1 (fun _ => False)).heap HI.out.1.heap (fun h => h))
  have y0' := alloc_cell (o := .cells #[] 32) y0
  clear z0
  have HO3 := Lib.hid (HI.out.1.own.row.below H3.out.1)
  go_wp2_with (first
    | (at_builtin; refine wpList_append' rfl (.tmp 77) (.tmp 81) el_i rfl rfl rfl (Own.alloc0 _ 4 _ _) HL.out (HO3.out.below (hA2 _ _)) (fl_one el_e l) (by unfold maxLen; omega) (by omega) ?_; intro yo yc w4 hx hch _ hx2; simp only [Nat.zero_add, List.nil_append] at hx; have H4 := Lib.hid (And.intro (chg_new (Below.refl _ _) hch) (And.intro hx (new_blk (Below.refl _ _) hx2))); clear hx hch hx2)
    | (at_builtin; refine wpList_append' rfl (.tmp 82) (.tmp 87) el_i rfl rfl rfl (H4.out.2.1.keep (Chg.of_below (hA2 _ _) (fun _ => False)) (fun _ _ h => h)) (m := 1) (news := [.string key, .slice xo m xc, .int .u64 1, .int .u64 (own : Int)]) rfl (Row.alloc _ #[.string key, .slice xo m xc, .int .u64 1, .int .u64 (own : Int)] 32 (0, 0)) (by intro u hu; simp at hu; rcases hu with rfl | rfl | rfl | rfl <;> rfl) (by unfold maxLen; omega) (by omega) ?_; intro zo zc w5 hx hch _ hx2; have hb5 := chg_on ((H3.out.1.trans (H4.out.1.mono H3.out.1.size)).trans ((hA2 w4 (.cells #[.string key, .slice xo m xc, .int .u64 1, .int .u64 (own : Int)] 32)).mono (H3.out.1.trans (H4.out.1.mono H3.out.1.size)).size)) hch (((H3.out.1.trans (H4.out.1.mono H3.out.1.size)).alloc (H3.out.1.trans (H4.out.1.mono H3.out.1.size)).size _).size) (fun a ha => Nat.le_trans H3.out.1.size (H4.out.2.2 a ha)); obtain ⟨y0, y2⟩ := cells1 ((Chg.of_below hb5 (fun _ => False)).heap HI.out.1.heap (fun h => h)); have H5 := Lib.hid (And.intro hb5 (And.intro hx (And.intro hx2 hch))); clear hx hch hx2 hb5))
  go_ret2
  have hb4 := H3.out.1.trans (H4.out.1.mono H3.out.1.size)
  have hx3 : Own w4 1 xo m xc (val.map cb) := H3.out.2.1.keep (Chg.of_below H4.out.1 (fun _ => False)) (fun _ _ h => h)
  have hx5 : Own w5 1 xo m xc (val.map cb) := (hx3.keep (Chg.of_below (hA2 w4 (.cells #[.string key, .slice xo m xc, .int .u64 1, .int .u64 (own : Int)] 32)) (fun _ => False)) (fun _ _ h => h)).keep H5.out.2.2.2 (fun a ha ⟨b, hb, e⟩ => by have h1 := H4.out.2.2 b hb; have h2 := (H3.out.2.1.at_ a ha).2.1; omega)
  have hml : val.length = m := by have := HI.out.2.2; simpa using this
  refine ⟨rfl, rtree_end (m := l ++ [⟨key, val, 1, own, xo, xc⟩]) HI.out.1 H5.out.1 (by rw [List.map_append, HI.out.1.map]; rfl) ?_ (fun a ha => ?_) (fun e he => ?_)⟩
  · have := H5.out.2.1
    simpa [Nd.cells, hml] using this
  · rcases H5.out.2.2.1 a ha with h1 | h1
    · exact Nat.le_trans H3.out.1.size (H4.out.2.2 a h1)
    · rw [size_alloc] at h1
      have := hb4.size
      omega
  · rcases List.mem_append.1 he with he | he
    · exact .inl he
    · rw [List.mem_singleton] at he
      subst he
      exact .inr ⟨hx5.bts, fun a ha => ⟨H3.out.2.2 a ha, (hx5.at_ a ha).2.1⟩⟩
end Go.Proofs.Ytebhbfjnobcckaa
