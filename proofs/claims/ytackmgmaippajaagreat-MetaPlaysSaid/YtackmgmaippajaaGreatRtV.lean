/-
  LAYER 8: the document's Put inside its State (printed by m7rt.py).
-/
import Derived.Test.YtackmgmaippajaaGreatRt
namespace Go.Proofs.YtackmgmaippajaaGreat.Tr
open Go Go.RowKit

/-! ### refused -/
set_option maxHeartbeats 1000000 in
theorem rput_name (q : Nat) (key : ByteArray) (vo : Option Addr) (m c : Nat) (a b : Value) (R : Int) (w : World) (h : key.size = 0 ∨ 64 < key.size) (hat : Calls Tryz.prog 54 #[.pointer (some ⟨q, 1, none⟩), .string key] w fun r w' => r = .returned (.int .i64 R) ∧ w = w') :
    Calls Tryz.prog 29 #[.pointer (some ⟨q, 1, none⟩), .string key, .slice vo m c, a, b] w fun r w' => r = .returned (.tuple #[.int .u64 0, .int .i64 10]) ∧ w = w' := by
  have HAT := Lib.hid hat
  clear hat
  rcases h with h | h
  · have i1 : (key.size : Int) < 1 := by omega
    go_enter Tryz.func29, Tryz.ntmps29
    go_wp2_with (go_at_call 54; (with_reducible refine HAT.out.mono ?_); rintro r w2 ⟨rfl, rfl⟩)
    go_ret2
    exact ⟨rfl, rfl⟩
  · have i1 : ¬ (key.size : Int) < 1 := by omega
    have i2 : (64 : Int) < (key.size : Int) := by omega
    go_enter Tryz.func29, Tryz.ntmps29
    go_wp2_with (go_at_call 54; (with_reducible refine HAT.out.mono ?_); rintro r w2 ⟨rfl, rfl⟩)
    go_ret2
    exact ⟨rfl, rfl⟩
set_option maxHeartbeats 1000000 in
theorem rput_long (q : Nat) (key : ByteArray) (vo : Option Addr) (m c : Nat) (a b : Value) (R : Int) (w : World) (h0 : key.size ≠ 0) (h1 : key.size ≤ 64) (hm : 3840 < m) (hat : Calls Tryz.prog 54 #[.pointer (some ⟨q, 1, none⟩), .string key] w fun r w' => r = .returned (.int .i64 R) ∧ w = w') :
    Calls Tryz.prog 29 #[.pointer (some ⟨q, 1, none⟩), .string key, .slice vo m c, a, b] w fun r w' => r = .returned (.tuple #[.int .u64 0, .int .i64 3]) ∧ w = w' := by
  have HAT := Lib.hid hat
  have i1 : ¬ (key.size : Int) < 1 := by omega
  have i2 : ¬ (64 : Int) < (key.size : Int) := by omega
  have i3 : (3840 : Int) < (m : Int) := by omega
  clear hat
  go_enter Tryz.func29, Tryz.ntmps29
  go_wp2_with (go_at_call 54; (with_reducible refine HAT.out.mono ?_); rintro r w2 ⟨rfl, rfl⟩)
  go_ret2
  exact ⟨rfl, rfl⟩
set_option maxHeartbeats 1000000 in
theorem rput_exists (q : Nat) (key : ByteArray) (vo : Option Addr) (m c i : Nat) (b : Value) (w : World) (h0 : key.size ≠ 0) (h1 : key.size ≤ 64) (hm : m ≤ 3840) (hat : Calls Tryz.prog 54 #[.pointer (some ⟨q, 1, none⟩), .string key] w fun r w' => r = .returned (.int .i64 (i : Int)) ∧ w = w') :
    Calls Tryz.prog 29 #[.pointer (some ⟨q, 1, none⟩), .string key, .slice vo m c, .int .u64 0, b] w fun r w' => r = .returned (.tuple #[.int .u64 0, .int .i64 12]) ∧ w = w' := by
  have HAT := Lib.hid hat
  have i1 : ¬ (key.size : Int) < 1 := by omega
  have i2 : ¬ (64 : Int) < (key.size : Int) := by omega
  have i3 : ¬ (3840 : Int) < (m : Int) := by omega
  have i4 : (0 : Int) ≤ (i : Int) := by omega
  clear hat
  go_enter Tryz.func29, Tryz.ntmps29
  go_wp2_with (go_at_call 54; (with_reducible refine HAT.out.mono ?_); rintro r w2 ⟨rfl, rfl⟩)
  go_ret2
  exact ⟨rfl, rfl⟩
set_option maxHeartbeats 1000000 in
theorem rput_absent (q : Nat) (key : ByteArray) (vo : Option Addr) (m c want : Nat) (b : Value) (w : World) (h0 : key.size ≠ 0) (h1 : key.size ≤ 64) (hm : m ≤ 3840) (hw : want ≠ 0) (hat : Calls Tryz.prog 54 #[.pointer (some ⟨q, 1, none⟩), .string key] w fun r w' => r = .returned (.int .i64 (-1)) ∧ w = w') :
    Calls Tryz.prog 29 #[.pointer (some ⟨q, 1, none⟩), .string key, .slice vo m c, .int .u64 (want : Int), b] w fun r w' => r = .returned (.tuple #[.int .u64 0, .int .i64 11]) ∧ w = w' := by
  have HAT := Lib.hid hat
  have i1 : ¬ (key.size : Int) < 1 := by omega
  have i2 : ¬ (64 : Int) < (key.size : Int) := by omega
  have i3 : ¬ (3840 : Int) < (m : Int) := by omega
  have i4 : ((want : Int) == 0) = false := by simp; omega
  clear hat
  go_enter Tryz.func29, Tryz.ntmps29
  go_wp2_with (go_at_call 54; (with_reducible refine HAT.out.mono ?_); rintro r w2 ⟨rfl, rfl⟩)
  go_ret2
  exact ⟨rfl, rfl⟩
set_option maxHeartbeats 1000000 in
theorem rput_version (q : Nat) (cs : Array Value) (t : TypeId) (rs : List Pl) (G : List Nat) (key : ByteArray) (x : Pl) (vo : Option Addr) (m c want i : Nat) (b : Value) (w : World) (h : RTreeAt w q cs t rs G) (h0 : key.size ≠ 0) (h1 : key.size ≤ 64) (hm : m ≤ 3840) (hw : want ≠ 0) (hx : rs[i]? = some x) (hv : x.ver ≠ want) (hat : Calls Tryz.prog 54 #[.pointer (some ⟨q, 1, none⟩), .string key] w fun r w' => r = .returned (.int .i64 (i : Int)) ∧ w = w') :
    Calls Tryz.prog 29 #[.pointer (some ⟨q, 1, none⟩), .string key, .slice vo m c, .int .u64 (want : Int), b] w fun r w' => r = .returned (.tuple #[.int .u64 0, .int .i64 13]) ∧ w = w' := by
  obtain ⟨lo, n, cap, l, h⟩ := h
  have HAT := Lib.hid hat
  have i1 : ¬ (key.size : Int) < 1 := by omega
  have i2 : ¬ (64 : Int) < (key.size : Int) := by omega
  have i3 : ¬ (3840 : Int) < (m : Int) := by omega
  have i4 : ((want : Int) == 0) = false := by simp; omega
  have i5 : (0 : Int) ≤ (i : Int) := by omega
  have i5' : ¬ (i : Int) < 0 := by omega
  obtain ⟨e, he, rfl⟩ := h.got hx
  have hin : (i : Int) < (n : Int) := by have := (List.getElem?_eq_some_iff.1 he).1; have := h.len.1; omega
  obtain ⟨b', off, rfl, q0, q1, q2, q3⟩ := nd_at h.own.row he
  obtain ⟨z0, z2⟩ := cellsK h.heap h.at1
  have hve : ((e.ver : Int) == (want : Int)) = false := by have : e.ver ≠ want := hv; simp; omega
  clear hat h hx hv he
  go_enter Tryz.func29, Tryz.ntmps29
  go_wp2_with (go_at_call 54; (with_reducible refine HAT.out.mono ?_); rintro r w2 ⟨rfl, rfl⟩)
  go_ret2
  exact ⟨rfl, rfl⟩
set_option maxHeartbeats 1000000 in
theorem rput_many (q : Nat) (cs : Array Value) (t : TypeId) (rs : List Pl) (G : List Nat) (key : ByteArray) (vo : Option Addr) (m c : Nat) (b : Value) (w : World) (h : RTreeAt w q cs t rs G) (h0 : key.size ≠ 0) (h1 : key.size ≤ 64) (hm : m ≤ 3840) (h256 : 256 ≤ rs.length) (hat : Calls Tryz.prog 54 #[.pointer (some ⟨q, 1, none⟩), .string key] w fun r w' => r = .returned (.int .i64 (-1)) ∧ w = w') :
    Calls Tryz.prog 29 #[.pointer (some ⟨q, 1, none⟩), .string key, .slice vo m c, .int .u64 0, b] w fun r w' => r = .returned (.tuple #[.int .u64 0, .int .i64 14]) ∧ w = w' := by
  obtain ⟨lo, n, cap, l, h⟩ := h
  have HAT := Lib.hid hat
  have i1 : ¬ (key.size : Int) < 1 := by omega
  have i2 : ¬ (64 : Int) < (key.size : Int) := by omega
  have i3 : ¬ (3840 : Int) < (m : Int) := by omega
  have i4 : (256 : Int) ≤ (n : Int) := by have := h.len.2; omega
  obtain ⟨z0, z2⟩ := cellsK h.heap h.at1
  clear hat h
  go_enter Tryz.func29, Tryz.ntmps29
  go_wp2_with (go_at_call 54; (with_reducible refine HAT.out.mono ?_); rintro r w2 ⟨rfl, rfl⟩)
  go_ret2
  exact ⟨rfl, rfl⟩
/-! ### done -/
set_option maxHeartbeats 2000000 in
set_option maxRecDepth 100000 in
theorem rput_new (q : Nat) (cs : Array Value) (t : TypeId) (rs : List Pl) (G : List Nat) (key : ByteArray) (vo : Option Addr) (m c : Nat) (val : List UInt8) (own : Nat) (w : World) (h : RTreeAt w q cs t rs G) (h0 : key.size ≠ 0) (h1 : key.size ≤ 64) (hv : Bts w vo val) (hvl : val.length = m) (hm : m ≤ 3840) (h256 : rs.length < 256) (hat : Calls Tryz.prog 54 #[.pointer (some ⟨q, 1, none⟩), .string key] w fun r w' => r = .returned (.int .i64 (-1)) ∧ w = w') :
    Calls Tryz.prog 29 #[.pointer (some ⟨q, 1, none⟩), .string key, .slice vo m c, .int .u64 0, .int .u64 (own : Int)] w fun r w' => r = .returned (.tuple #[.int .u64 1, .int .i64 0]) ∧ RWrote w w' q cs t (rs ++ [⟨key, val, 1, own⟩]) G := by
  obtain ⟨lo, n, cap, l, h⟩ := h
  have HAT := Lib.hid hat
  have HI := Lib.hid (And.intro h (And.intro hv (show (val.map cb).length = m * 1 by rw [List.length_map, hvl, Nat.mul_one])))
  have HL := Lib.hid (show (l.flatMap Nd.cells).length = n * 4 by rw [fl_len el_e, h.len.1])
  have hn256 : n < 256 := by have := h.len.2; omega
  have i1 : ¬ (key.size : Int) < 1 := by omega
  have i2 : ¬ (64 : Int) < (key.size : Int) := by omega
  have i3 : ¬ (3840 : Int) < (m : Int) := by omega
  have i4 : ¬ (256 : Int) ≤ (n : Int) := by omega
  obtain ⟨z0, z2⟩ := cellsK h.heap h.at1
  have hA2 := fun (W : World) (o : Obj) => (Below.refl W.heap.size W).alloc (Nat.le_refl _) o
  clear hat h hv h256
  go_enter Tryz.func29, Tryz.ntmps29
  go_upto_region 16 with (first
    | (go_at_call 54; (with_reducible refine HAT.out.mono ?_); rintro r w2 ⟨rfl, rfl⟩)
    | (at_builtin; refine wpList_append' rfl (.tmp 71) (.tmp 72) el_u8 rfl rfl rfl (Own.alloc0 _ 1 _ _) HI.out.2.2 (HI.out.2.1.below (hA2 _ _)) (one_cb val) (by unfold maxLen; omega) (by omega) ?_; intro xo xc w3 hx hch _ hx2; simp only [Nat.zero_add, List.nil_append] at hx; have H3 := Lib.hid (And.intro (chg_new (Below.refl _ _) hch) (And.intro hx (new_blk (Below.refl _ _) hx2))); clear hx hch hx2))
  obtain ⟨y0, _⟩ := cellsK ((Chg.of_below H3.out.1 (fun _ => False)).heap HI.out.1.heap (fun h => h)) HI.out.1.at1
  have y0' := alloc_cell (o := .cells #[] 78) y0
  clear z0
  have HO3 := Lib.hid (HI.out.1.own.row.below H3.out.1)
  go_wp2_with (first
    | (at_builtin; refine wpList_append' rfl (.tmp 77) (.tmp 81) el_i rfl rfl rfl (Own.alloc0 _ 4 _ _) HL.out (HO3.out.below (hA2 _ _)) (fl_one el_e l) (by unfold maxLen; omega) (by omega) ?_; intro yo yc w4 hx hch _ hx2; simp only [Nat.zero_add, List.nil_append] at hx; have H4 := Lib.hid (And.intro (chg_new (Below.refl _ _) hch) (And.intro hx (new_blk (Below.refl _ _) hx2))); clear hx hch hx2)
    | (at_builtin; refine wpList_append' rfl (.tmp 82) (.tmp 87) el_i rfl rfl rfl (H4.out.2.1.keep (Chg.of_below (hA2 _ _) (fun _ => False)) (fun _ _ h => h)) (m := 1) (news := [.string key, .slice xo m xc, .int .u64 1, .int .u64 (own : Int)]) rfl (Row.alloc _ #[.string key, .slice xo m xc, .int .u64 1, .int .u64 (own : Int)] 78 (0, 0)) (by intro u hu; simp at hu; rcases hu with rfl | rfl | rfl | rfl <;> rfl) (by unfold maxLen; omega) (by omega) ?_; intro zo zc w5 hx hch _ hx2; have hb5 := chg_on ((H3.out.1.trans (H4.out.1.mono H3.out.1.size)).trans ((hA2 w4 (.cells #[.string key, .slice xo m xc, .int .u64 1, .int .u64 (own : Int)] 78)).mono (H3.out.1.trans (H4.out.1.mono H3.out.1.size)).size)) hch (((H3.out.1.trans (H4.out.1.mono H3.out.1.size)).alloc (H3.out.1.trans (H4.out.1.mono H3.out.1.size)).size _).size) (fun a ha => Nat.le_trans H3.out.1.size (H4.out.2.2 a ha)); obtain ⟨y0, y2⟩ := cellsK ((Chg.of_below hb5 (fun _ => False)).heap HI.out.1.heap (fun h => h)) HI.out.1.at1; have H5 := Lib.hid (And.intro hb5 (And.intro hx (And.intro hx2 hch))); clear hx hch hx2 hb5))
  go_ret2
  have hb4 := H3.out.1.trans (H4.out.1.mono H3.out.1.size)
  have hx3 : Own w4 1 xo m xc (val.map cb) := H3.out.2.1.keep (Chg.of_below H4.out.1 (fun _ => False)) (fun _ _ h => h)
  have hx5 : Own w5 1 xo m xc (val.map cb) := (hx3.keep (Chg.of_below (hA2 w4 (.cells #[.string key, .slice xo m xc, .int .u64 1, .int .u64 (own : Int)] 78)) (fun _ => False)) (fun _ _ h => h)).keep H5.out.2.2.2 (fun a ha ⟨b, hb, e⟩ => by have h1 := H4.out.2.2 b hb; have h2 := (H3.out.2.1.at_ a ha).2.1; omega)
  have hml : val.length = m := by have := HI.out.2.2; simpa using this
  refine ⟨rfl, rtree_end (m := l ++ [⟨key, val, 1, own, xo, xc⟩]) HI.out.1 H5.out.1 (by rw [List.map_append, HI.out.1.map]; rfl) ?_ (fun a ha => ?_) (fun e he => ?_)⟩
  · have := H5.out.2.1
    simpa [Nd.cells, hml] using this
  · rcases H5.out.2.2.1 a ha with h1 | h1
    · exact Nat.le_trans H3.out.1.size (H4.out.2.2 a h1)
    · rw [size_alloc] at h1
      have := hb4.size
      omega
  · rcases List.mem_append.1 he with he | he
    · exact .inl he
    · rw [List.mem_singleton] at he
      subst he
      exact .inr ⟨hx5.bts, fun a ha => ⟨H3.out.2.2 a ha, (hx5.at_ a ha).2.1⟩⟩

theorem fl_mid4 (es : List Nd) (i : Nat) (e e' : Nd) (v1 v2 : Value) (he : es[i]? = some e) (hc : e'.cells = [.string e.key, v1, v2, .int .u64 (e.own : Int)]) : (((es.flatMap Nd.cells).set (i * 4 + 1) v1).set (i * 4 + 2) v2) = (es.set i e').flatMap Nd.cells := by
  induction es generalizing i with
  | nil => simp at he
  | cons x es ih =>
    cases i with
    | zero =>
      simp at he
      subst he
      simp [Nd.cells] at hc ⊢
      simp [hc]
    | succ i =>
      simp at he
      rw [List.set_cons_succ, List.flatMap_cons, List.flatMap_cons, ← ih i he]
      rw [show (i + 1) * 4 = i * 4 + 1 + 1 + 1 + 1 by omega]
      simp [Nd.cells]
theorem setP_first : ∀ {rs : List Pl} {t x : Pl} {i : Nat}, rs[i]? = some x → cmpB x.key t.key = 0 → (∀ y ∈ rs.take i, cmpB y.key t.key ≠ 0) → setP rs t = rs.set i t
  | [], _, _, _, hx, _, _ => by simp at hx
  | y :: ps, t, x, 0, hx, h0, _ => by simp at hx; subst hx; rw [setP, if_pos h0]; rfl
  | y :: ps, t, x, i + 1, hx, h0, hno => by
    rw [setP, if_neg (hno y (by simp)), setP_first (i := i) (by simpa using hx) h0 (fun z hz => hno z (by simp [hz]))]
    rfl
set_option maxHeartbeats 2000000 in
set_option maxRecDepth 100000 in
theorem rput_set (q : Nat) (cs : Array Value) (t : TypeId) (rs : List Pl) (G : List Nat) (key : ByteArray) (x : Pl) (i : Nat) (vo : Option Addr) (m c : Nat) (val : List UInt8) (want nv : Nat) (b : Value) (w : World) (h : RTreeAt w q cs t rs G) (h0 : key.size ≠ 0) (h1 : key.size ≤ 64) (hv : Bts w vo val) (hvl : val.length = m) (hm : m ≤ 3840) (h256 : rs.length ≤ 256) (hw : want ≠ 0) (hx : rs[i]? = some x) (hxv : x.ver = want) (hx0 : cmpB x.key key = 0) (hno : ∀ y ∈ rs.take i, cmpB y.key key ≠ 0) (hnv : IntKind.u64.wrap ((want : Int) + 1) = (nv : Int)) (hat : Calls Tryz.prog 54 #[.pointer (some ⟨q, 1, none⟩), .string key] w fun r w' => r = .returned (.int .i64 (i : Int)) ∧ w = w') :
    Calls Tryz.prog 29 #[.pointer (some ⟨q, 1, none⟩), .string key, .slice vo m c, .int .u64 (want : Int), b] w fun r w' => r = .returned (.tuple #[.int .u64 (nv : Int), .int .i64 0]) ∧ RWrote w w' q cs t (setP rs ⟨key, val, nv, x.own⟩) G := by
  obtain ⟨lo, n, cap, l, h⟩ := h
  have HAT := Lib.hid hat
  have hn256 : n ≤ 256 := by have := h.len.2; omega
  have i1 : ¬ (key.size : Int) < 1 := by omega
  have i2 : ¬ (64 : Int) < (key.size : Int) := by omega
  have i3 : ¬ (3840 : Int) < (m : Int) := by omega
  have i4 : ((want : Int) == 0) = false := by simp; omega
  have i5 : (0 : Int) ≤ (i : Int) := by omega
  have i5' : ¬ (i : Int) < 0 := by omega
  obtain ⟨e, he, rfl⟩ := h.got hx
  have hin : i < n := by have := (List.getElem?_eq_some_iff.1 he).1; have := h.len.1; omega
  have hinI : (i : Int) < (n : Int) := by omega
  have HI := Lib.hid (And.intro h (And.intro hv (show (val.map cb).length = m * 1 by rw [List.length_map, hvl, Nat.mul_one])))
  have HL := Lib.hid (show (l.flatMap Nd.cells).length = n * 4 by rw [fl_len el_e, h.len.1])
  have hke : e.key = key := cmpB_zero.1 hx0
  have HE := Lib.hid (And.intro he (And.intro (setP_first (t := ⟨key, val, nv, e.own⟩) hx (show cmpB e.pl.key key = 0 from hx0) hno) hke))
  obtain ⟨b', off, rfl, q0, q1, q2, q3⟩ := nd_at h.own.row he
  obtain ⟨z0, z2⟩ := cellsK h.heap h.at1
  have hve : (e.ver : Int) = (want : Int) := by have : e.ver = want := hxv; omega
  rw [hve] at q2
  have hA2 := fun (W : World) (o : Obj) => (Below.refl W.heap.size W).alloc (Nat.le_refl _) o
  clear hat h hv h256 hx hxv hx0 hno he hve hke
  go_enter Tryz.func29, Tryz.ntmps29
  go_upto_region 18 with (first
    | (go_at_call 54; (with_reducible refine HAT.out.mono ?_); rintro r w2 ⟨rfl, rfl⟩)
    | (at_builtin; refine wpList_append' rfl (.tmp 71) (.tmp 72) el_u8 rfl rfl rfl (Own.alloc0 _ 1 _ _) HI.out.2.2 (HI.out.2.1.below (hA2 _ _)) (one_cb val) (by unfold maxLen; omega) (by omega) ?_; intro xo xc w3 hx hch _ hx2; simp only [Nat.zero_add, List.nil_append] at hx; have H3 := Lib.hid (And.intro (chg_new (Below.refl _ _) hch) (And.intro hx (new_blk (Below.refl _ _) hx2))); clear hx hch hx2))
  obtain ⟨y0, _⟩ := cellsK ((Chg.of_below H3.out.1 (fun _ => False)).heap HI.out.1.heap (fun h => h)) HI.out.1.at1
  have y0' := alloc_cell (o := .cells #[] 78) y0
  clear z0 q0 q1 q2 q3
  have HO3 := Lib.hid (HI.out.1.own.row.below H3.out.1)
  go_upto_region 19 with (at_builtin; refine wpList_append' rfl (.tmp 91) (.tmp 95) el_i rfl rfl rfl (Own.alloc0 _ 4 _ _) HL.out (HO3.out.below (hA2 _ _)) (fl_one el_e l) (by unfold maxLen; omega) (by omega) ?_; intro yo yc w4 hx hch _ hx2; simp only [Nat.zero_add, List.nil_append] at hx; have H4 := Lib.hid (And.intro (chg_new (Below.refl _ _) hch) (And.intro hx (new_blk (Below.refl _ _) hx2))); clear hx hch hx2)
  have ho4 := H4.out.2.1
  obtain ⟨yb, yoff, hyo, g0, g1, g2, g3⟩ := nd_at ho4.row HE.out.1
  subst hyo
  have hnc := ho4.le
  have hfr : ∀ j, j < yc * 4 → w4.frozen? ⟨yb, yoff + j, none⟩ = false := fun j hj => ((ho4.at_ _ rfl).2.2.1 j hj).2
  have f1 := hfr (i * 4 + 1) (by omega)
  have f2 := hfr (i * 4 + 2) (by omega)
  simp only [← Nat.add_assoc] at f1 f2
  have hb4 := H3.out.1.trans (H4.out.1.mono H3.out.1.size)
  obtain ⟨u0, u2⟩ := cellsK ((Chg.of_below hb4 (fun _ => False)).heap HI.out.1.heap (fun h => h)) HI.out.1.at1
  have hyq : ¬ yb = q := fun e => by have h1 := H4.out.2.2 _ rfl; have h2 := HI.out.1.lt q HI.out.1.qG; have h3 := H3.out.1.size; simp only at h1; omega
  have hqy : ¬ q = yb := fun e => hyq e.symm
  have HB4 := Lib.hid hb4
  clear ho4 hfr hnc hb4 y0 y0' z2
  go_wp2
  go_ret2
  have hx3 : Own w4 1 xo m xc (val.map cb) := H3.out.2.1.keep (Chg.of_below H4.out.1 (fun _ => False)) (fun _ _ h => h)
  have hml : val.length = m := by have := HI.out.2.2; simpa using this
  have hil : i < l.length := (List.getElem?_eq_some_iff.1 HE.out.1).1
  have s1 := H4.out.2.1.set (i * 4 + 1) (.slice xo m xc) (by omega)
  have s2 := s1.set (i * 4 + 2) (.int .u64 (nv : Int)) (by omega)
  rw [fl_mid4 l i e ⟨key, val, nv, e.own, xo, xc⟩ _ _ HE.out.1 (by simp [Nd.cells, hml, HE.out.2.2])] at s2
  simp only [← Nat.add_assoc] at s2
  have hch : Chg (fun k => k = yb) w4 ((w4.setCell ⟨yb, yoff + i * 4 + 1, none⟩ (.slice xo m xc)).setCell ⟨yb, yoff + i * 4 + 2, none⟩ (.int .u64 (nv : Int))) := ((Chg.refl (fun k => k = yb) w4).set (p := yb) rfl _ _).set (p := yb) rfl _ _
  have hyn : w.heap.size ≤ yb := Nat.le_trans H3.out.1.size (H4.out.2.2 _ rfl)
  refine ⟨rfl, ?_⟩
  rw [show setP rs ⟨key, val, nv, e.pl.own⟩ = _ from HE.out.2.1]
  refine rtree_end (m := l.set i ⟨key, val, nv, e.own, xo, xc⟩) HI.out.1 (HB4.out.trans (hch.below HB4.out.size (fun k hk => hk ▸ hyn))) (by rw [List.map_set, HI.out.1.map]; rfl) s2 (fun a ha => by cases ha; exact hyn) (fun y hy => ?_)
  rcases List.mem_or_eq_of_mem_set hy with hy | rfl
  · exact .inl hy
  · refine .inr ⟨hch.row hx3.row (fun a ha e => by have h1 := (H3.out.2.1.at_ a ha).2.1; have h2 := H4.out.2.2 _ rfl; simp only at h2; omega), fun a ha => ⟨H3.out.2.2 a ha, ?_⟩⟩
    have := (hx3.at_ a ha).2.1
    have := hch.size
    omega
/-! ### the document's Put, in plain words -/
def putR (l : List Pl) (key : ByteArray) (body : List UInt8) (want own : Nat) : List Pl × Nat × Int :=
  if key.size = 0 ∨ 64 < key.size then (l, 0, 10)
  else if 3840 < body.length then (l, 0, 3)
  else match lookP l key with
    | none => if want ≠ 0 then (l, 0, 11) else if 256 ≤ l.length then (l, 0, 14) else (l ++ [⟨key, body, 1, own⟩], 1, 0)
    | some x => if want = 0 then (l, 0, 12) else if x.ver ≠ want then (l, 0, 13) else (setP l ⟨key, body, (want + 1) % 18446744073709551616, x.own⟩, (want + 1) % 18446744073709551616, 0)
theorem rput_all (q : Nat) (cs : Array Value) (t : TypeId) (rs : List Pl) (G : List Nat) (key : ByteArray) (vo : Option Addr) (m c : Nat) (val : List UInt8) (want own : Nat) (w : World) (h : RTreeAt w q cs t rs G) (h256 : rs.length ≤ 256) (hv : Bts w vo val) (hm : val.length = m) (hw : want < 18446744073709551616) :
    Calls Tryz.prog 29 #[.pointer (some ⟨q, 1, none⟩), .string key, .slice vo m c, .int .u64 (want : Int), .int .u64 (own : Int)] w fun r w' => r = .returned (.tuple #[.int .u64 ((putR rs key val want own).2.1 : Int), .int .i64 (putR rs key val want own).2.2]) ∧ RWrote w w' q cs t (putR rs key val want own).1 G := by
  subst hm
  have hsame : ∀ (e e' : Ending) (w' : World), e' = e ∧ w = w' → e' = e ∧ RWrote w w' q cs t rs G := by
    rintro e e' w' ⟨rfl, rfl⟩
    exact ⟨rfl, .same h (Below.refl _ _)⟩
  have hh := h
  obtain ⟨lo, n, cap, l, hi⟩ := hh
  have hn := hi.len.2
  unfold putR
  rcases first_key rs key with hno | ⟨i, x, hx, h0, hno⟩
  · have hat := rat_to q cs t lo n cap l rs G key n (-1) w hi (by omega) (Nat.le_refl _) (fun x hx => hno x (List.mem_of_mem_take hx)) (.inl ⟨rfl, rfl⟩)
    rw [look_none hno]
    by_cases k0 : key.size = 0 ∨ 64 < key.size
    · rw [if_pos k0]
      exact (rput_name q key vo _ c _ _ _ w k0 hat).mono (fun e w' he => hsame _ _ _ he)
    rw [if_neg k0]
    by_cases k1 : 3840 < val.length
    · rw [if_pos k1]
      exact (rput_long q key vo _ c _ _ _ w (by omega) (by omega) k1 hat).mono (fun e w' he => hsame _ _ _ he)
    rw [if_neg k1]
    dsimp only
    by_cases k2 : want = 0
    · subst k2
      rw [if_neg (by simp)]
      by_cases k3 : 256 ≤ rs.length
      · rw [if_pos k3]
        exact (rput_many q cs t rs G key vo _ c _ w h (by omega) (by omega) (by omega) k3 hat).mono (fun e w' he => hsame _ _ _ he)
      · rw [if_neg k3]
        exact rput_new q cs t rs G key vo _ c val own w h (by omega) (by omega) hv rfl (by omega) (by omega) hat
    · rw [if_pos k2]
      exact (rput_absent q key vo _ c want _ w (by omega) (by omega) (by omega) k2 hat).mono (fun e w' he => hsame _ _ _ he)
  · have hil := (List.getElem?_eq_some_iff.1 hx).1
    have hat := rat_to q cs t lo n cap l rs G key i (i : Int) w hi (by omega) (by omega) hno (.inr ⟨rfl, x, hx, h0⟩)
    rw [look_first hx h0 hno]
    by_cases k0 : key.size = 0 ∨ 64 < key.size
    · rw [if_pos k0]
      exact (rput_name q key vo _ c _ _ _ w k0 hat).mono (fun e w' he => hsame _ _ _ he)
    rw [if_neg k0]
    by_cases k1 : 3840 < val.length
    · rw [if_pos k1]
      exact (rput_long q key vo _ c _ _ _ w (by omega) (by omega) k1 hat).mono (fun e w' he => hsame _ _ _ he)
    rw [if_neg k1]
    dsimp only
    by_cases k2 : want = 0
    · subst k2
      rw [if_pos rfl]
      exact (rput_exists q key vo _ c i _ w (by omega) (by omega) (by omega) hat).mono (fun e w' he => hsame _ _ _ he)
    · rw [if_neg k2]
      by_cases k4 : x.ver = want
      · rw [if_neg (by simpa using k4)]
        exact rput_set q cs t rs G key x i vo _ c val want _ _ w h (by omega) (by omega) hv rfl (by omega) h256 k2 hx k4 h0 hno (wrap_next want hw) hat
      · rw [if_pos k4]
        exact (rput_version q cs t rs G key x vo _ c want i _ w h (by omega) (by omega) (by omega) k2 hx k4 hat).mono (fun e w' he => hsame _ _ _ he)
end Go.Proofs.YtackmgmaippajaaGreat.Tr
